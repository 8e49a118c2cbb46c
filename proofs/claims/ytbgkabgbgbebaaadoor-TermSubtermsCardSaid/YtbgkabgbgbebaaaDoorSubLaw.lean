/- The law TermSubterms, walked. -/
import Derived.Test.YtbgkabgbgbebaaaDoorAwake
import Derived.Test.YtbgkabgbgbebaaaDoorRsub
import Derived.Test.YtbgkabgbgbebaaaDoorMix
namespace Go.Proofs.YtbgkabgbgbebaaaDoor
open Go.RowKit Go.Sort

theorem lists_same (l : List Tm) (its its' : List It) (v : Value) (n' c' : Nat) (A' : Option Addr) (w w1 : World) (base base' : Nat) (F F' : Nat → Prop) (hsz : ∀ t ∈ l, t.size ≤ 1000000) (hlen : l.length ≤ 10000000)
    (hm : its.map (·.1) = l) (hm' : its'.map (·.1) = l) (hrow : RowT w1 base F v its) (hb : Below w1.heap.size w1 w) (hrow' : RowT w base' F' (.slice A' n' c') its') (hn' : n' = l.length) :
    Calls Tryd.prog 26 #[v, .slice A' n' c'] w fun e w' => e = .returned (.bool true) ∧ Lay w.heap.size w w' := by
  obtain ⟨A, c, rfl, h⟩ := (hrow.below hb).toS (P := fun b => b < w.heap.size) (fun b _ h => h) (fun b _ h => h)
  obtain ⟨A1, c1, he, h'⟩ := hrow'.toS (P := fun b => b < w.heap.size) (fun b _ h => h) (fun b _ h => h)
  injection he with e1 e2 e3
  subst e1 e2 e3
  rw [hm] at h
  rw [hm'] at h'
  have hl : its.length = l.length := by rw [← hm]; simp
  rw [hl, hn']
  have := lists_any l l A A' c c' w hsz hsz hlen (by omega) h h'
  rwa [show Tm.sames l l = true from Tm.sames_iff.2 rfl] at this

set_option maxHeartbeats 4000000 in
set_option maxRecDepth 100000 in
theorem subs_law (l : List Tm) (A : Option Addr) (cap : Nat) (w : World) (hw : Words w.heap.size w) (hrep : RepS w (fun b => b < w.heap.size) l A cap) :
    Calls Tryd.prog 6 #[.slice A l.length cap] w fun e w' => e = .returned (.bool true) ∧ Below w.heap.size w w' := by
  have mixed : Tryd.prog.follows .mixedOrders = true := by kernel_rfl
  have HW := Lib.hid hw; clear hw
  have HR := Lib.hid hrep; clear hrep
  go_enter Tryd.func6, Tryd.ntmps6
  go_wp2_with fail
  refine (awake_any w HW.out).mono ?_
  rintro e w1 ⟨rfl, hb1⟩
  have hw1 := HW.out.below hb1
  have hr1 := RepS.up (HR.out.below hb1) hb1.size
  clear HW HR
  have HW := Lib.hid hw1; clear hw1
  have HR := Lib.hid hr1; clear hr1
  have HB := Lib.hid hb1; clear hb1
  go_wp2_with fail
  refine (few_any l A cap 20 300 w1 (by decide) (by decide) HR.out).mono ?_
  rintro e w2 ⟨rfl, hl2⟩
  have hw2 := HW.out.below hl2.below
  have hr2 := RepS.up (HR.out.below hl2.below) hl2.size
  have hb2 := below_then HB.out hl2.below HB.out.size
  clear HW HR HB hl2
  have HR := Lib.hid hr2; clear hr2
  have HB := Lib.hid hb2; clear hb2
  by_cases hle : (l.length : Int) ≤ 20 ∧ 0 ≤ Tm.lefts l 300
  · have hss : Tm.sizes l ≤ 1000000 := by have := Tm.lefts_size l 300 (by decide) hle.2; omega
    have hsz := Tm.lefts_each (by decide) hle.2
    have hll : l.length ≤ 20 := by omega
    rw [decide_eq_true hle]
    clear hle hw2
    have HSS := Lib.hid hss; clear hss
    have HSZ := Lib.hid hsz; clear hsz
    have HLL := Lib.hid hll; clear hll
    go_wp2_with fail
    refine (subterms_any l A cap w2 HSS.out HR.out).mono ?_
    rintro e w3 ⟨v3, its, rfl, hrow, hb3, hm⟩
    have hr3 := HR.out.below hb3
    have hb3' := below_then HB.out hb3 HB.out.size
    have hs3 := hb3.size
    clear HB
    have HROW := Lib.hid hrow; clear hrow
    have HM := Lib.hid hm; clear hm
    have HR3 := Lib.hid hr3; clear hr3 hb3
    have HB := Lib.hid hb3'; clear hb3'
    have HS3 := Lib.hid hs3; clear hs3
    go_wp2_with fail
    refine (rsubterms_any l A cap w3 w2.heap.size HS3.out HSS.out HR3.out).mono ?_
    rintro e w4 ⟨A4, c4, n4, its4, rfl, hn4, hrow4, hb4, hm4⟩
    have hr4 := HR3.out.below (hb4.mono HS3.out)
    have hs4 : w2.heap.size ≤ w4.heap.size := Nat.le_trans HS3.out hb4.size
    have hb4' := below_then HB.out hb4 HB.out.size
    have HL := Lib.hid (lists_same (Tm.set (Tm.alls l)) its its4 v3 n4 c4 A4 w4 w3 _ _ _ _ (fun t ht => by
      have := Tm.mem_alls_size l t ((Tm.mem_set _ _).1 ht); have := HSS.out; omega) (by
      have := Tm.set_length (Tm.alls l); have := Tm.alls_length l; have := HSS.out; omega) HM.out hm4 HROW.out hb4 hrow4 hn4)
    have hr4' := RepS.up hr4 hs4
    clear HROW HM hm4 hrow4 hn4 hb4 HB HR3 HS3 hr4 hs4 HR HSS
    have HR := Lib.hid hr4'; clear hr4'
    have HB := Lib.hid hb4'; clear hb4'
    go_wp2_with fail
    refine HL.out.mono ?_
    clear HL
    rintro e w5 ⟨rfl, hl5⟩
    have hr5 := RepS.up (HR.out.below hl5.below) hl5.size
    have hb5 := below_then HB.out hl5.below HB.out.size
    clear HB HR hl5
    have HR := Lib.hid hr5; clear hr5
    have HB := Lib.hid hb5; clear hb5
    go_wp2_with fail
    go_loopw [21] (fun i wr => ∃ k : Nat, k ≤ l.length ∧ i = .int .i64 k ∧ Hid (RepS wr (fun b => b < wr.heap.size) l A cap) ∧ Hid (Below w.heap.size w wr)) (fun i _ => l.length - (intOf i).toNat)
    case atStart => exact ⟨0, Nat.zero_le _, rfl, HR, HB⟩
    case round =>
      obtain ⟨k, hk, rfl, HRR, HBR⟩ := hrel
      clear HR HB
      by_cases hlt : k < l.length
      · obtain ⟨-, -, hkids⟩ := HRR.out
        rcases hkids with rfl | ⟨bk, off, rfl, hbk, hl⟩
        · simp at hlt
        obtain ⟨C, ck, e0, e1, e2, e3, e5⟩ := RepL.get hl k hlt
        obtain ⟨X, hX⟩ : ∃ X, X = wr.alloc (boxOf l[k] C ck) := ⟨_, rfl⟩
        have hxb : Below wr.heap.size wr X := by rw [hX]; exact below1 (Nat.le_refl _) _
        have hbx : BoxT X wr.heap.size l[k] C ck := by rw [hX]; exact BoxT.new e5
        have hbX := below_then HBR.out hxb HBR.out.size
        have hrX := RepS.up (HRR.out.below hxb) hxb.size
        have hks : l[k].size ≤ 1000000 := by have := HSZ.out _ (List.getElem_mem hlt); omega
        have hl20 := HLL.out
        have i1 : (0 : Int) ≤ (k : Int) := Int.natCast_nonneg _
        have i2 : (k : Int) < (l.length : Int) := by omega
        obtain ⟨t, ht⟩ : ∃ t, t = l[k] := ⟨_, rfl⟩
        rw [← ht] at e0 e1 e2 e3 e5 hX hbx hks
        simp only [boxOf] at hX
        have HXX := Lib.hid hX; clear hX
        have HBX := Lib.hid hbx; clear hbx
        have HBW := Lib.hid hbX; clear hbX
        have HKS := Lib.hid hks; clear hks
        have HRX := Lib.hid hrX; clear hrX
        clear ht e5 hl hbk hxb HRR HBR
        go_wp2_with fail
        clear e0 e1 e2 e3
        rw [← HXX.out]
        clear HXX
        have HC : Hid (∀ Y, Below X.heap.size X Y → Y.cell? ⟨wr.heap.size, 0, none⟩ = some (.int .i64 t.kind) ∧ Y.cell? ⟨wr.heap.size, 1, none⟩ = some (.string t.name) ∧ Y.cell? ⟨wr.heap.size, 2, none⟩ = some (.int .i64 t.sort) ∧ Y.cell? ⟨wr.heap.size, 3, none⟩ = some (.slice C t.kids.length ck)) := fun Y h => by
          obtain ⟨h0, h1, h2, h3, -⟩ := (HBX.out.below h).cells
          exact ⟨h0, h1, h2, h3⟩
        have hS : Below X.heap.size X X.drew := (Lay.refl _ _).drew.below
        have HS := Lib.hid hS; clear hS
        refine wp_region_mix (fun Y => Below X.heap.size X Y) 14 (.held 0 (.held 2 (.op 1 (.op 3 (.op 4 (.op 5 (.op 6 (.held 7 (.held 9 (.op 8 (.op 10 (.op 11 (.op 12 (.op 13 .nil)))))))))))))) mixed (by kernel_rfl) ?_
        refine mix_take_g (v := .agg #[.int .i64 t.kind, .string t.name, .int .i64 t.sort, .slice C t.kids.length ck]) rfl (by rfl) (fun _ _ _ h => h) HS.out (fun Y hY => by obtain ⟨g0, g1, g2, g3⟩ := HC.out Y hY; (try simp only [Act.put]); go_simp) ?_
        refine mix_take_g (v := .agg #[.int .i64 t.kind, .string t.name, .int .i64 t.sort, .slice C t.kids.length ck]) rfl (by rfl) (fun _ _ _ h => h) HS.out (fun Y hY => by obtain ⟨g0, g1, g2, g3⟩ := HC.out Y hY; (try simp only [Act.put]); go_simp) ?_
        simp only [Act.put, List.setIfInBounds_toArray]
        refine mix_op_g rfl (by rfl) (fun K hK => ?_)
        go_wp2_with fail
        refine (vars_any t C ck X.drew HKS.out (HBX.out.below HS.out).2).mono ?_
        rintro e ya1 ⟨va, itsa, rfl, hrowa, hba, hma⟩
        have hS := below_then HS.out hba HS.out.size; clear HS
        have HS := Lib.hid hS; clear hS
        refine hK _ _ ⟨fun _ => HS.out, ?_⟩; clear hK K
        refine mix_op_g rfl (by rfl) (fun K hK => ?_)
        go_wp2_with fail
        refine (rvars_any t C ck ya1 ya1.heap.size (Nat.le_refl _) HKS.out (HBX.out.below HS.out).2).mono ?_
        rintro e ya2 ⟨Ab, cb, nb, itsb, rfl, hnb, hrowb, hbb, hmb⟩
        have HL := Lib.hid (lists_same (Tm.set (t.all.filter fun u => u.kind == 1)) itsa itsb va nb cb Ab ya2 ya1 _ _ _ _ (fun u hu => by
          have := Tm.mem_all_size t u ((List.mem_filter.1 ((Tm.mem_set _ _).1 hu)).1); have := HKS.out; omega) (by
          have := Tm.set_length (t.all.filter fun u => u.kind == 1); have := List.length_filter_le (fun u : Tm => u.kind == 1) t.all; have := Tm.all_length t; have := HKS.out; omega) hma hmb hrowa hbb hrowb hnb)
        have hS := below_then HS.out hbb HS.out.size
        clear HS hrowa hba hma hrowb hnb hmb hbb
        have HS := Lib.hid hS; clear hS
        refine hK _ _ ⟨fun _ => HS.out, ?_⟩; clear hK K
        refine mix_op_g rfl (by rfl) (fun K hK => ?_)
        go_wp2_with fail
        refine HL.out.mono ?_
        clear HL
        rintro e ya3 ⟨rfl, hlc⟩
        have hS := below_then HS.out hlc.below HS.out.size
        clear HS hlc
        have HS := Lib.hid hS; clear hS
        refine hK _ _ ⟨fun _ => HS.out, ?_⟩; clear hK K
        refine mix_op_g rfl (by rfl) (fun K hK => ?_)
        go_wp2_with fail
        refine ⟨fun _ => HS.out, ?_⟩
        refine mix_op_g rfl (by rfl) (fun K hK => ?_)
        go_wp2_with fail
        refine ⟨fun _ => HS.out, ?_⟩
        refine mix_take_g (v := .agg #[.int .i64 t.kind, .string t.name, .int .i64 t.sort, .slice C t.kids.length ck]) rfl (by rfl) (fun _ _ _ h => h) HS.out (fun Y hY => by obtain ⟨g0, g1, g2, g3⟩ := HC.out Y hY; (try simp only [Act.put]); go_simp) ?_
        refine mix_take_g (v := .agg #[.int .i64 t.kind, .string t.name, .int .i64 t.sort, .slice C t.kids.length ck]) rfl (by rfl) (fun _ _ _ h => h) HS.out (fun Y hY => by obtain ⟨g0, g1, g2, g3⟩ := HC.out Y hY; (try simp only [Act.put]); go_simp) ?_
        simp only [Act.put, List.setIfInBounds_toArray]
        refine mix_op_g rfl (by rfl) (fun K hK => ?_)
        go_wp2_with fail
        refine (atoms_any t C ck ya3 HKS.out (HBX.out.below HS.out).2).mono ?_
        rintro e yb1 ⟨va, itsa, rfl, hrowa, hba, hma⟩
        have hS := below_then HS.out hba HS.out.size; clear HS
        have HS := Lib.hid hS; clear hS
        refine hK _ _ ⟨fun _ => HS.out, ?_⟩; clear hK K
        refine mix_op_g rfl (by rfl) (fun K hK => ?_)
        go_wp2_with fail
        refine (ratoms_any t C ck yb1 yb1.heap.size (Nat.le_refl _) HKS.out (HBX.out.below HS.out).2).mono ?_
        rintro e yb2 ⟨Ab, cb, nb, itsb, rfl, hnb, hrowb, hbb, hmb⟩
        have HL := Lib.hid (lists_same (Tm.set (t.all.filter fun u => u.kind == 2)) itsa itsb va nb cb Ab yb2 yb1 _ _ _ _ (fun u hu => by
          have := Tm.mem_all_size t u ((List.mem_filter.1 ((Tm.mem_set _ _).1 hu)).1); have := HKS.out; omega) (by
          have := Tm.set_length (t.all.filter fun u => u.kind == 2); have := List.length_filter_le (fun u : Tm => u.kind == 2) t.all; have := Tm.all_length t; have := HKS.out; omega) hma hmb hrowa hbb hrowb hnb)
        have hS := below_then HS.out hbb HS.out.size
        clear HS hrowa hba hma hrowb hnb hmb hbb
        have HS := Lib.hid hS; clear hS
        refine hK _ _ ⟨fun _ => HS.out, ?_⟩; clear hK K
        refine mix_op_g rfl (by rfl) (fun K hK => ?_)
        go_wp2_with fail
        refine HL.out.mono ?_
        clear HL
        rintro e yb3 ⟨rfl, hlc⟩
        have hS := below_then HS.out hlc.below HS.out.size
        clear HS hlc
        have HS := Lib.hid hS; clear hS
        refine hK _ _ ⟨fun _ => HS.out, ?_⟩; clear hK K
        refine mix_op_g rfl (by rfl) (fun K hK => ?_)
        go_wp2_with fail
        refine ⟨fun _ => HS.out, ?_⟩
        refine mix_op_g rfl (by rfl) (fun K hK => ?_)
        go_wp2_with fail
        refine ⟨fun _ => HS.out, ?_⟩
        refine mix_nil ?_
        have hrE := RepS.up (HRX.out.below HS.out) HS.out.size
        have hbE := below_then HBW.out HS.out HBW.out.size
        clear HC
        go_wp2_with fail
        go_roundw
        case rel => exact ⟨k + 1, by omega, by go_num, hrE, hbE⟩
        case measure => simp [intOf]; omega
      · obtain rfl : k = l.length := by omega
        go_wp2_with fail
        go_ret
        exact ⟨rfl, HBR.out⟩
  · rw [decide_eq_false hle]
    have HW := Lib.hid hw2; clear hw2
    go_wp2_with fail
    refine (awake_any w2 HW.out).mono ?_
    rintro e w3 ⟨rfl, hb3⟩
    go_wp2_with fail
    go_ret
    exact ⟨rfl, below_then HB.out hb3 HB.out.size⟩
end Go.Proofs.YtbgkabgbgbebaaaDoor
