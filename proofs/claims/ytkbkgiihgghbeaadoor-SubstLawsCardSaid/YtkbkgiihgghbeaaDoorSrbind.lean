/- The reference's Bind. -/
import Derived.Test.YtkbkgiihgghbeaaDoorSrapply
import Derived.Test.YtkbkgiihgghbeaaDoorSrow
import Derived.Test.YtkbkgiihgghbeaaDoorScomp
namespace Go.Proofs.YtkbkgiihgghbeaaDoor
open Go.RowKit Go.Sort

/-- one binding appended to a row, out of a block that is laid for it -/
theorem RowB.more1 {w : World} {base : Nat} {F : Nat → Prop} {v : Value} {its : List IB} (hrow : RowB w base F v its) (hF : ∀ b, F b → b < base) (hbase : base ≤ w.heap.size) (X : IB) (h1 : RepP w F X.1.1 X.1.2.1 X.1.2.2) (h2 : RepP w F X.2.1 X.2.2.1 X.2.2.2) (hlen : its.length + 1 ≤ 100000000) :
    ∃ A' c' w', (∀ ty, (Builtin.append_ #[22, 22] ty #[v, .slice (some ⟨w.heap.size, 0, none⟩) 1 1]).run Tryd.prog (w.alloc (.cells #[.int .i64 X.1.1.kind, .string X.1.1.name, .int .i64 X.1.1.sort, .slice X.1.2.1 X.1.1.kids.length X.1.2.2, .int .i64 X.2.1.kind, .string X.2.1.name, .int .i64 X.2.1.sort, .slice X.2.2.1 X.2.1.kids.length X.2.2.2] 54)) = .ok (.slice A' (its.length + 1) c') w') ∧
      RowB w' base F (.slice A' (its.length + 1) c') (its ++ [X]) ∧ w.heap.size ≤ w'.heap.size ∧ (∀ W0 B0, Below B0 W0 w → B0 ≤ base → Below B0 W0 w') := by
  have hb := below1 (Nat.le_refl w.heap.size) (.cells #[.int .i64 X.1.1.kind, .string X.1.1.name, .int .i64 X.1.1.sort, .slice X.1.2.1 X.1.1.kids.length X.1.2.2, .int .i64 X.2.1.kind, .string X.2.1.name, .int .i64 X.2.1.sort, .slice X.2.2.1 X.2.1.kids.length X.2.2.2] 54)
  have key : ∀ (t : Tm) A c, RepP w F t A c → RepP (w.alloc (.cells #[.int .i64 X.1.1.kind, .string X.1.1.name, .int .i64 X.1.1.sort, .slice X.1.2.1 X.1.1.kids.length X.1.2.2, .int .i64 X.2.1.kind, .string X.2.1.name, .int .i64 X.2.1.sort, .slice X.2.2.1 X.2.1.kids.length X.2.2.2] 54))
      (fun b => F b ∧ b < (w.alloc (.cells #[.int .i64 X.1.1.kind, .string X.1.1.name, .int .i64 X.1.1.sort, .slice X.1.2.1 X.1.1.kids.length X.1.2.2, .int .i64 X.2.1.kind, .string X.2.1.name, .int .i64 X.2.1.sort, .slice X.2.2.1 X.2.1.kids.length X.2.2.2] 54)).heap.size ∧ v.ownBlock ≠ some b) t A c := fun t A c h =>
    RepP.mono (fun b hb => ⟨hb, by have := hF b hb; simp; omega, fun e => by have := (hrow.lt b e).1; have := hF b hb; omega⟩) (fun p hp => hb.cell (by have := hF _ hp; omega)) _ _ _ h
  obtain ⟨g, cap, w', e1, e2, e3, e4⟩ := (hrow.below hb).grow1 (by simp; omega) X w.heap.size 1 (0, 0) (heap_alloc_new _ _) (key _ _ _ h1) (key _ _ _ h2) hlen
  refine ⟨_, cap, w', e1, e2, by have := e3.size; simp at this; omega, fun W0 B0 hB hB0 => ?_⟩
  exact below_of_grown (hB.alloc (by omega) _) (by simp; omega) e3 (fun k hk => by have := (hrow.lt k hk).1; omega)

def bindR (s : List Bd) (x t : Tm) : List Bd := if x = t then s else insB (x, t) s
theorem insB_lt {X b : Bd} {r : List Bd} (h : X.1.cmp b.1 < 0) : insB X (b :: r) = X :: b :: r := if_pos h
theorem insB_ge {X b : Bd} {r : List Bd} (h : 0 ≤ X.1.cmp b.1) : insB X (b :: r) = b :: insB X r := if_neg (by omega)
/-- the bindings so far, and what is to come -/
def BindSpec (X : Bd) (s cur : List Bd) (d : Bool) (k : Nat) : Prop := insB X s = cur ++ (if d = true then s.drop k else insB X (s.drop k))

set_option maxHeartbeats 4000000 in
set_option maxRecDepth 100000 in
theorem rbind_any (s : List Bd) (S0 : Option Addr) (scap : Nat) (x t : Tm) (A : Option Addr) (c : Nat) (A2 : Option Addr) (c2 : Nat) (w : World) (hsz : SizeB s) (hslen : s.length ≤ 1000000) (hx : x.size ≤ 1000000) (ht : t.size ≤ 1000000)
    (hrs : RepB w (fun b => b < w.heap.size) s S0 scap) (hrx : RepT w w.heap.size x A c) (hrt : RepT w w.heap.size t A2 c2) :
    Calls Tryd.prog 49 #[.slice S0 s.length scap, x.val A c, t.val A2 c2] w fun e w' => ∃ A' c', e = .returned (.slice A' (bindR s x t).length c') ∧ RepB w' (fun b => b < w'.heap.size) (bindR s x t) A' c' ∧ Below w.heap.size w w' := by
  have mixed : Tryd.prog.follows .mixedOrders = true := by kernel_rfl
  obtain ⟨V, hV⟩ : ∃ V, V = (w.alloc (.cells #[.int .i64 x.kind, .string x.name, .int .i64 x.sort, .slice A x.kids.length c] 30)).alloc (.cells #[.int .i64 t.kind, .string t.name, .int .i64 t.sort, .slice A2 t.kids.length c2] 30) := ⟨_, rfl⟩
  have h2 : Two w x t A A2 c c2 V := by rw [hV]; exact Two.new w x t A A2 c c2
  have SM := rsame_any x t A A2 c c2 V hx ht (hrx.go h2.lay.below h2.lay.size) (hrt.go h2.lay.below h2.lay.size)
  obtain ⟨r, hr⟩ : ∃ r, r = bindR s x t := ⟨_, rfl⟩
  rw [← hr]
  have HR0 := Lib.hid hr; clear hr
  obtain ⟨q0, hq0⟩ : ∃ q, q = x.same t := ⟨_, rfl⟩
  rw [← hq0] at SM
  have SM := Lib.hid SM
  have HQ0 := Lib.hid hq0; clear hq0
  obtain ⟨g1, g2, g3⟩ := hrs
  unfold maxLen at g2
  have HRS : Hid (RepB w (fun b => b < w.heap.size) s S0 scap) := ⟨g1, g2, g3⟩
  have HRX := Lib.hid hrx; clear hrx
  have HRT := Lib.hid hrt; clear hrt
  have HSZ := Lib.hid hsz; clear hsz
  have HV := Lib.hid hV; clear hV
  have H2 := Lib.hid h2; clear h2
  obtain ⟨a0, a1, a2, a3, -⟩ := box_at H2.out.one
  obtain ⟨b0, b1, b2, b3, -⟩ := box_at H2.out.two
  simp only [Tm.val] at SM ⊢
  go_enter Tryd.func49, Tryd.ntmps49
  go_wp2_with fail
  rw [← HV.out]
  go_wp2_with fail
  refine SM.out.mono ?_; clear SM HV a0 a1 a2 a3 b0 b1 b2 b3
  rintro e w1 ⟨rfl, hl1⟩
  have H21 := Lib.hid (H2.out.go hl1); clear H2 hl1
  cases q0 with
  | true =>
    have hr : r = s := HR0.out.trans (if_pos (Tm.same_iff.1 HQ0.out.symm))
    subst hr
    go_wp2_with fail
    go_ret
    exact ⟨S0, scap, rfl, HRS.out.go H21.out.lay.below H21.out.lay.size, H21.out.lay.below⟩
  | false =>
    have HR1 : Hid (r = insB (x, t) s) := HR0.out.trans (if_neg (Tm.same_false.1 HQ0.out.symm))
    clear HR0
    go_wp2_with fail
    go_loopw [7, 8, 9] (fun v dv i wr => ∃ (k m c0 : Nat) (d : Bool) (A' : Option Addr) (its : List IB), k ≤ s.length ∧ i = .int .i64 k ∧ dv = .bool d ∧ v = .slice A' m c0 ∧ m ≤ k + 1 ∧ Hid (d = false → m ≤ k) ∧ Hid (m = its.length) ∧ Hid (RowB wr (w.heap.size + 2) (fun b => b < w.heap.size) (.slice A' m c0) its) ∧
        Hid (BindSpec (x, t) s (its.map IB.bd) d k) ∧ Hid (Below (w.heap.size + 2) w1 wr) ∧ Hid (Two w x t A A2 c c2 w1 ∧ w.heap.size + 2 ≤ w1.heap.size))
      (fun _ _ i _ => s.length - (intOf i).toNat)
    case atStart => exact ⟨0, 0, 0, false, none, [], Nat.zero_le _, rfl, rfl, rfl, by omega, fun _ => Nat.le_refl _, rfl, RowB.nil _ _ _, by simp [BindSpec, Hid], Below.refl _ _, H21.out, by have := H21.out.lt; omega⟩
    case round =>
      obtain ⟨k, m, c0, d, A', its, hk, rfl, rfl, rfl, hmk, HMD, HML, HR, HS, HBW, HTW⟩ := hrel
      have i1 : (0 : Int) ≤ (k : Int) := Int.natCast_nonneg _
      have hsw : w.heap.size + 2 ≤ wr.heap.size := Nat.le_trans HTW.out.2 HBW.out.size
      have HBWW : Hid (Below w.heap.size w wr) := HTW.out.1.lay.below.trans (HBW.out.mono (by omega))
      have hx1 := (HBW.out.block w.heap.size (by omega)).trans HTW.out.1.one
      have hx2 := (HBW.out.block (w.heap.size + 1) (by omega)).trans HTW.out.1.two
      have HX1 := Lib.hid hx1; clear hx1
      have HX2 := Lib.hid hx2; clear hx2
      have HTX : Hid (∀ X, Below w.heap.size w X → RepP X (fun b => b < w.heap.size) x A c) := fun X hX => RepP.mono (fun _ h => h) (fun p hp => hX.cell hp) _ _ _ HRX.out
      have HTT : Hid (∀ X, Below w.heap.size w X → RepP X (fun b => b < w.heap.size) t A2 c2) := fun X hX => RepP.mono (fun _ h => h) (fun p hp => hX.cell hp) _ _ _ HRT.out
      by_cases hlt : k < s.length
      · have i2 : (k : Int) < (s.length : Int) := by omega
        rcases g3 with rfl | ⟨kb, off, rfl, hbB, hl⟩
        · simp at hlt
        have HSL : Hid (∃ C e C' e', ∀ X, Below w.heap.size w X → At8 X (fun b => b < w.heap.size) kb (off + k * 8) s[k] C e C' e') := by
          obtain ⟨C, e, C', e', h8⟩ := hl.get8 k hlt
          refine ⟨C, e, C', e', fun X hX => ?_⟩
          have hc : ∀ o, X.cell? ⟨kb, o, none⟩ = w.cell? ⟨kb, o, none⟩ := fun o => hX.cell hbB
          exact ⟨(hc _).trans h8.c0, (hc _).trans h8.c1, (hc _).trans h8.c2, (hc _).trans h8.c3, (hc _).trans h8.c4, (hc _).trans h8.c5, (hc _).trans h8.c6, (hc _).trans h8.c7,
            RepP.mono (fun _ h => h) (fun p hp => hX.cell hp) _ _ _ h8.r1, RepP.mono (fun _ h => h) (fun p hp => hX.cell hp) _ _ _ h8.r2⟩
        obtain ⟨C, ce, C', ce', HSL2⟩ := HSL.out
        have HSL := Lib.hid HSL2; clear HSL2 hl
        obtain ⟨hk1, hk2⟩ := HSZ.out s[k] (List.getElem_mem hlt)
        have CK : Hid (∀ X, Below wr.heap.size wr X → Calls Tryd.prog 40 #[x.val A c, s[k].1.val C ce] X fun e w' => e = .returned (.int .i64 (x.cmp s[k].1)) ∧ Lay X.heap.size X w') := fun X hX =>
          have hb : Below w.heap.size w X := HBWW.out.trans (hX.mono (by omega))
          rcompare_any 1000000 x s[k].1 A C c ce X hx (Nat.le_refl _) hk1 (RepP.mono (fun b (h : b < w.heap.size) => by have := hb.size; omega) (fun _ _ => rfl) _ _ _ (HTX.out X hb)) (RepP.mono (fun b (h : b < w.heap.size) => by have := hb.size; omega) (fun _ _ => rfl) _ _ _ (HSL.out X hb).r1)
        have HD : Hid (s.drop k = s[k] :: s.drop (k + 1)) := List.drop_eq_getElem_cons hlt
        have HZB : Hid (∀ nq osq, Below wr.heap.size wr (grow (wr.drewN nq) osq)) := fun nq osq => (Lay.of_grow _ _).below
        have hcx : ∀ n os o, (grow (wr.drewN n) os).cell? ⟨w.heap.size, o, none⟩ = wr.cell? ⟨w.heap.size, o, none⟩ := fun n os o => (Lay.of_grow (w := wr) n os).below.cell (by show w.heap.size < _; omega)
        have hck : ∀ n os o, (grow (wr.drewN n) os).cell? ⟨kb, o, none⟩ = wr.cell? ⟨kb, o, none⟩ := fun n os o => (Lay.of_grow (w := wr) n os).below.cell (by show kb < _; omega)
        obtain ⟨d0, d1, d2, d3, -⟩ := box_at HX1.out
        have y0 := fun n os => (hcx n os _).trans d0
        have y1 := fun n os => (hcx n os _).trans d1
        have y2 := fun n os => (hcx n os _).trans d2
        have y3 := fun n os => (hcx n os _).trans d3
        have h8 := HSL.out wr HBWW.out
        have p0 := fun n os => (hck n os _).trans h8.c0
        have p1 := fun n os => (hck n os _).trans h8.c1
        have p2 := fun n os => (hck n os _).trans h8.c2
        have p3 := fun n os => (hck n os _).trans h8.c3
        clear hcx hck d0 d1 d2 d3 h8
        generalize hb : s[k] = bk at *
        have HBK := Lib.hid hb; clear hb
        obtain ⟨q, hq⟩ : ∃ q, q = x.cmp bk.1 := ⟨_, rfl⟩
        rw [← hq] at CK
        have HQ := Lib.hid hq; clear hq
        simp only [Tm.val] at CK
        have hcase : d = true ∨ (d = false ∧ 0 ≤ q) ∨ (d = false ∧ q < 0) := by
          cases d
          · rcases Int.lt_or_le q 0 with h | h
            · exact .inr (.inr ⟨rfl, h⟩)
            · exact .inr (.inl ⟨rfl, h⟩)
          · exact .inl rfl
        rcases hcase with rfl | ⟨rfl, h0⟩ | ⟨rfl, h0⟩
        · go_wp2_with fail
          go_quiet (fail)
          have hz : Below wr.heap.size wr (wr.drewN nq) := ((Lay.refl _ _).drewN _).below
          clear CK y0 y1 y2 y3 p0 p1 p2 p3 HZB
          generalize wr.drewN nq = Z at *
          have hzs := hz.size
          have hzw := HBWW.out.trans (hz.mono (by omega))
          obtain ⟨s0, s1, s2, s3, s4, s5, s6, s7, r1, r2⟩ := HSL.out Z hzw
          obtain ⟨A1, c1, w3, hap, hr1, hg1, hb1⟩ := (HR.out.below hz).more1 (fun b h => by omega) (by omega) ((bk.1, C, ce), (bk.2, C', ce')) r1 r2 (by have := HML.out; omega)
          rw [← HML.out] at hap hr1
          have HB1 := Lib.hid (hb1 _ _ (HBW.out.trans (hz.mono (by omega))) (Nat.le_refl _)); clear hb1
          have HR2 := Lib.hid hr1; clear hr1 r1 r2 hg1 hz
          dsimp only at hap
          go_wp2_with (at_builtin; refine wpList_run_append rfl _ _ rfl rfl rfl hap ?_)
          go_roundw
          case rel =>
            refine ⟨k + 1, _, c1, true, A1, _, by omega, by go_num, rfl, rfl, by omega, fun h => (by cases h), (by rw [List.length_append, ← HML.out]; rfl), HR2.out, ?_, HB1.out, HTW.out⟩
            have h := HS.out; unfold BindSpec at h ⊢
            rw [List.map_append, h, HD.out, List.append_assoc]
            rfl
          case measure => simp [intOf]; omega
        · have q1 : decide (q < 0) = false := decide_eq_false (by omega)
          go_wp2_with fail
          go_quiet_grown ((go_at_call 40; exact quiet_lay (CK.out _ (HZB.out _ _))))
          have hz : Below wr.heap.size wr (grow (wr.drewN nq) osq) := (Lay.of_grow _ _).below
          clear CK y0 y1 y2 y3 p0 p1 p2 p3 HZB
          generalize grow (wr.drewN nq) osq = Z at *
          have hzs := hz.size
          have hzw := HBWW.out.trans (hz.mono (by omega))
          obtain ⟨s0, s1, s2, s3, s4, s5, s6, s7, r1, r2⟩ := HSL.out Z hzw
          obtain ⟨A1, c1, w3, hap, hr1, hg1, hb1⟩ := (HR.out.below hz).more1 (fun b h => by omega) (by omega) ((bk.1, C, ce), (bk.2, C', ce')) r1 r2 (by have := HML.out; omega)
          rw [← HML.out] at hap hr1
          have HB1 := Lib.hid (hb1 _ _ (HBW.out.trans (hz.mono (by omega))) (Nat.le_refl _)); clear hb1
          have HR2 := Lib.hid hr1; clear hr1 r1 r2 hg1 hz
          dsimp only at hap
          go_wp2_with (at_builtin; refine wpList_run_append rfl _ _ rfl rfl rfl hap ?_)
          go_roundw
          case rel =>
            refine ⟨k + 1, _, c1, false, A1, _, by omega, by go_num, rfl, rfl, by omega, fun _ => (by have := HMD.out (by simp); omega), (by rw [List.length_append, ← HML.out]; rfl), HR2.out, ?_, HB1.out, HTW.out⟩
            have h := HS.out; unfold BindSpec at h ⊢
            rw [List.map_append, h, HD.out, List.append_assoc]
            simp only [Bool.false_eq_true, if_false, insB_ge (show 0 ≤ (x, t).1.cmp bk.1 by rw [← HQ.out]; exact h0)]
            rfl
          case measure => simp [intOf]; omega
        · have q1 : decide (q < 0) = true := decide_eq_true h0
          go_wp2_with fail
          go_quiet_grown ((go_at_call 40; exact quiet_lay (CK.out _ (HZB.out _ _))))
          have hz : Below wr.heap.size wr (grow (wr.drewN nq) osq) := (Lay.of_grow _ _).below
          clear CK y0 y1 y2 y3 p0 p1 p2 p3 HZB
          generalize grow (wr.drewN nq) osq = Z at *
          have hzs := hz.size
          have hzw := HBWW.out.trans (hz.mono (by omega))
          obtain ⟨d0, d1, d2, d3, -⟩ := box_at ((hz.block w.heap.size (by omega)).trans HX1.out)
          obtain ⟨e0, e1, e2, e3, -⟩ := box_at ((hz.block (w.heap.size + 1) (by omega)).trans HX2.out)
          have hm0 := HMD.out (by simp)
          obtain ⟨A1, c1, w3, hap, hr1, hg1, hb1⟩ := (HR.out.below hz).more1 (fun b h => by omega) (by omega) ((x, A, c), (t, A2, c2)) (HTX.out Z hzw) (HTT.out Z hzw) (by have := HML.out; omega)
          have hB1 := hb1 _ _ (HBW.out.trans (hz.mono (by omega))) (Nat.le_refl _)
          have hw3 := hb1 _ _ hzw (by omega)
          obtain ⟨s0, s1, s2, s3, s4, s5, s6, s7, r1, r2⟩ := HSL.out w3 hw3
          have hl1 : (its ++ [(((x, A, c), (t, A2, c2)) : IB)]).length = m + 1 := by rw [List.length_append, ← HML.out]; rfl
          rw [← HML.out] at hap hr1
          obtain ⟨A3, c3, w4, hap2, hr2, hg2, hb2⟩ := hr1.more1 (fun b h => by omega) (by omega) ((bk.1, C, ce), (bk.2, C', ce')) r1 r2 (by omega)
          rw [hl1] at hap2 hr2
          have HL1 := Lib.hid hl1; clear hl1
          have HB2 := Lib.hid (hb2 _ _ hB1 (Nat.le_refl _)); clear hb2 hb1 hB1
          have HR2 := Lib.hid hr2; clear hr2 hr1 r1 r2 hg2 hz hw3
          dsimp only at hap hap2
          go_wp2_with (at_builtin; first | refine wpList_run_append rfl _ _ rfl rfl rfl hap ?_ | refine wpList_run_append rfl _ _ rfl rfl rfl hap2 ?_)
          go_roundw
          case rel =>
            refine ⟨k + 1, _, c3, true, A3, _, by omega, by go_num, rfl, rfl, by omega, fun h => (by cases h), (by rw [List.length_append, HL1.out]; rfl), HR2.out, ?_, HB2.out, HTW.out⟩
            have h := HS.out; unfold BindSpec at h ⊢
            rw [List.map_append, List.map_append, h, HD.out, List.append_assoc, List.append_assoc]
            simp only [Bool.false_eq_true, if_false, if_true, insB_lt (show (x, t).1.cmp bk.1 < 0 by rw [← HQ.out]; exact h0)]
            rfl
          case measure => simp [intOf]; omega
      · obtain rfl : k = s.length := by omega
        have hS := HS.out
        unfold BindSpec at hS
        rw [← HR1.out, List.drop_length] at hS
        cases d with
        | true =>
          have hm : r = its.map IB.bd := by simpa using hS
          have hml : m = r.length := by rw [hm, List.length_map]; exact HML.out
          have HM := Lib.hid hm; clear hm hS HS
          subst hml
          go_wp2_with fail
          go_ret
          obtain ⟨A1, c1, he, hS⟩ := HR.out.toB (P := fun b => b < wr.heap.size) (fun b _ h => h) (fun b _ h => h)
          injection he with he1 _ he3
          subst he1 he3
          exact ⟨A', c0, rfl, by rw [HM.out]; exact hS, HBWW.out⟩
        | false =>
          have hm : r = (its ++ [(((x, A, c), (t, A2, c2)) : IB)]).map IB.bd := by rw [List.map_append]; exact (by simpa [insB] using hS : r = its.map IB.bd ++ [(x, t)])
          have hml : m + 1 = r.length := by rw [hm, List.length_map, List.length_append, ← HML.out]; rfl
          have HM := Lib.hid hm; clear hm hS HS
          obtain ⟨d0, d1, d2, d3, -⟩ := box_at HX1.out
          obtain ⟨e0, e1, e2, e3, -⟩ := box_at HX2.out
          obtain ⟨A1, c1, w3, hap, hr1, hg1, hb1⟩ := HR.out.more1 (fun b h => by omega) (by omega) ((x, A, c), (t, A2, c2)) (HTX.out wr HBWW.out) (HTT.out wr HBWW.out) (by have := HML.out; omega)
          rw [← HML.out, hml] at hap hr1
          have HB1 := Lib.hid (hb1 _ _ HBWW.out (by omega)); clear hb1
          have HR2 := Lib.hid hr1; clear hr1 hg1 hml
          dsimp only at hap
          go_wp2_with (at_builtin; refine wpList_run_append rfl _ _ rfl rfl rfl hap ?_)
          go_ret
          obtain ⟨A4, c4, he, hS⟩ := HR2.out.toB (P := fun b => b < w3.heap.size) (fun b _ h => h) (fun b _ h => h)
          injection he with he1 _ he3
          subst he1 he3
          exact ⟨A1, c1, rfl, by rw [HM.out]; exact hS, HB1.out⟩
end Go.Proofs.YtkbkgiihgghbeaaDoor
