/- subst.Parse (NOT whole yet: the loop is missing). -/
import Derived.Test.YtipmibjhlpnhjaaGreatDoorSpsize
import Derived.Test.YtipmibjhlpnhjaaGreatDoorSstest
import Derived.Test.YtipmibjhlpnhjaaGreatDoorSrow
import Derived.Test.YtipmibjhlpnhjaaGreatDoorGg
namespace Go.Proofs.YtipmibjhlpnhjaaGreatDoor
open Go.RowKit Go.Sort

/-- what Parse returns -/
def ParsedS (r : List Bd × Int) (w : World) (e : Ending) (w' : World) : Prop :=
  ∃ A c, e = .returned (.tuple #[.slice A r.1.length c, .int .i64 r.2]) ∧ RepB w' (fun b => b < w'.heap.size) r.1 A c ∧ Below w.heap.size w w'
theorem parsedS_err {w w' : World} {n : Int} (hb : Below w.heap.size w w') : ParsedS ([], n) w (.returned (.tuple #[.slice none 0 0, .int .i64 n])) w' :=
  ⟨none, 0, rfl, ⟨Nat.le_refl _, by unfold maxLen; omega, .inl rfl⟩, hb⟩

theorem lens_mem {P : List (List UInt8)} {p : List UInt8} (h : p ∈ P) : p.length ≤ Lib.lens P := by
  induction P with
  | nil => simp at h
  | cons x r ih =>
    have e : Lib.lens (x :: r) = x.length + Lib.lens r := by simp [Lib.lens]
    rcases List.mem_cons.1 h with rfl | h
    · omega
    · have := ih h; omega
theorem pieces_len {l p : List UInt8} (h : p ∈ piecesE l) : p.length ≤ l.length := by
  have hj := join_pieces l
  cases hP : piecesE l with
  | nil => rw [hP] at h; simp at h
  | cons x r =>
    rw [hP] at h hj
    have h1 := Lib.join_length x r [44, 32]
    have h2 := lens_mem h
    rw [hj] at h1
    omega
theorem pieces_count (l : List UInt8) : (piecesE l).length ≤ l.length + 1 := by
  obtain ⟨-, -, -, -, -, h⟩ := pstate_inv l l.length (Nat.le_refl _)
  unfold piecesE
  simp; omega

theorem cut_len (l s : List UInt8) : (Lib.cut l s).1.length ≤ l.length ∧ (Lib.cut l s).2.1.length ≤ l.length := by
  unfold Lib.cut
  split
  · simp; omega
  · simp
theorem drewN_below (w : World) (n : Nat) : Below w.heap.size w (w.drewN n) := ((Lay.refl _ _).drewN n).below

/-- one binding appended to a row of the call's own, out of a block that is laid for it -/
theorem RowB.more2 {w : World} {base : Nat} {F : Nat → Prop} {v : Value} {its : List IB} (hrow : RowB w base F v its) (hbase : base ≤ w.heap.size) (X : IB)
    (h1 : RepP w (fun b => F b ∧ b < w.heap.size ∧ v.ownBlock ≠ Option.some b) X.1.1 X.1.2.1 X.1.2.2) (h2 : RepP w (fun b => F b ∧ b < w.heap.size ∧ v.ownBlock ≠ Option.some b) X.2.1 X.2.2.1 X.2.2.2) (hlen : its.length + 1 ≤ 100000000) :
    ∃ g c' w', (∀ ty, (Builtin.append_ #[27, 27] ty #[v, .slice (Option.some ⟨w.heap.size, 0, none⟩) 1 1]).run Tryz.prog (w.alloc (.cells #[.int .i64 X.1.1.kind, .string X.1.1.name, .int .i64 X.1.1.sort, .slice X.1.2.1 X.1.1.kids.length X.1.2.2, .int .i64 X.2.1.kind, .string X.2.1.name, .int .i64 X.2.1.sort, .slice X.2.2.1 X.2.1.kids.length X.2.2.2] 53)) = .ok (.slice (Option.some ⟨g, 0, none⟩) (its.length + 1) c') w') ∧
      RowB w' base F (.slice (Option.some ⟨g, 0, none⟩) (its.length + 1) c') (its ++ [X]) ∧ (∀ W0 B0, Below B0 W0 w → B0 ≤ base → Below B0 W0 w') := by
  obtain ⟨W6, hW6⟩ : ∃ W6, W6 = w.alloc (.cells (bCells [X]).toArray 53) := ⟨_, rfl⟩
  have hb6 : Below w.heap.size w W6 := by rw [hW6]; exact below1 (Nat.le_refl _) _
  have hs6 : W6.heap.size = w.heap.size + 1 := by rw [hW6]; simp
  have hx6 : W6.heap[w.heap.size]? = Option.some (.cells (bCells [X]).toArray 53 (0, 0)) := by rw [hW6]; exact heap_alloc_new _ _
  have key : ∀ (t : Tm) A c, RepP w (fun b => F b ∧ b < w.heap.size ∧ v.ownBlock ≠ Option.some b) t A c → RepP W6 (fun b => F b ∧ b < W6.heap.size ∧ v.ownBlock ≠ Option.some b) t A c := fun t A c h =>
    RepP.mono (fun b hb => ⟨hb.1, by have := hb.2.1; omega, hb.2.2⟩) (fun p hp => hb6.cell hp.2.1) _ _ _ h
  obtain ⟨g, cap, w', e1, e2, e3, e4⟩ := (hrow.below hb6).grow1 (by omega) X w.heap.size 1 (0, 0) hx6 (key _ _ _ h1) (key _ _ _ h2) hlen
  simp only [bCells, bits, itCells, Tm.cells, List.cons_append, List.nil_append] at hW6
  rw [hW6] at e1
  refine ⟨g, cap, w', e1, e2, fun W0 B0 hB hB0 => ?_⟩
  have hbs := hB.size
  exact (hB.trans (hb6.mono (by omega))).grown e3 (by omega) (fun j e => by have := (hrow.lt _ e).1; omega)

set_option maxHeartbeats 1200000 in
set_option maxRecDepth 100000 in
theorem sparse_any (s : ByteArray) (w : World) (hs : s.size ≤ 100000) (hm : Maxl w) (hw : Words w.heap.size w) : Calls Tryz.prog 33 #[.string s] w (ParsedS (parseSE s.data.toList) w) := by
  have mixed : Tryz.prog.follows .mixedOrders = true := by kernel_rfl
  obtain ⟨l, hl⟩ : ∃ l, l = s.data.toList := ⟨_, rfl⟩
  have hsz : s.size = l.length := by rw [hl]; exact size_list s
  rw [← hl]
  obtain ⟨r, hr⟩ : ∃ r, r = parseSE l := ⟨_, rfl⟩
  rw [← hr]
  unfold parseSE at hr
  by_cases h2 : l.length < 2
  · rw [if_pos (.inl h2)] at hr
    subst hr
    have i1 : (l.length : Int) < 2 := by omega
    clear h2 hl
    go_enter Tryz.func33, Tryz.ntmps33
    go_wp2_with fail
    go_ret2
    exact parsedS_err (Below.refl _ _)
  have HR := Lib.hid hr; clear hr
  have hat : ∀ k, (h : k < l.length) → ∃ h' : k < s.size, s[k] = l[k] := fun k h => ⟨by omega, by subst hl; rfl⟩
  have HL := Lib.hid hl; clear hl
  obtain ⟨h0, e0⟩ := hat 0 (by omega)
  obtain ⟨h1, e1⟩ := hat (l.length - 1) (by omega)
  obtain ⟨c, hc⟩ : ∃ c : Int, c = (l[0].toNat : Int) := ⟨_, rfl⟩
  obtain ⟨z, hz⟩ : ∃ z : Int, z = (l[l.length - 1].toNat : Int) := ⟨_, rfl⟩
  have hc2 : (s[0].toNat : Int) = c := by rw [e0, hc]
  have hz2 : (s[l.length - 1].toNat : Int) = z := by rw [e1, hz]
  have i1 : ¬ (l.length : Int) < 2 := by omega
  have i2 : ((l.length - 1 : Nat) : Int) = (l.length : Int) - 1 := by omega
  have i3 : (0 : Int) ≤ (l.length : Int) - 1 := by omega
  have i4 : ((l.length : Int) - 1).toNat = l.length - 1 := by omega
  by_cases hc3 : c = 123
  · by_cases hz3 : z = 125
    · have f1 : (c != 123) = false := by simp [hc3]
      have f2 : (z != 125) = false := by simp [hz3]
      have hr : r = if l.length = 2 then ([], 0) else bodyE (piecesE ((l.take (l.length - 1)).drop 1)) := by
        rw [HR.out, if_neg]
        rintro (g | g | g)
        · omega
        · apply g
          rw [List.getElem?_eq_getElem (by omega)]
          congr 1
          exact UInt8.toNat_inj.1 (by have : ((123 : UInt8).toNat : Int) = 123 := rfl; omega)
        · apply g
          rw [List.getElem?_eq_getElem (by omega)]
          congr 1
          exact UInt8.toNat_inj.1 (by have : ((125 : UInt8).toNat : Int) = 125 := rfl; omega)
      have HR2 := Lib.hid hr; clear hr HR
      clear hc3 hz3 hc hz e0 e1 hat
      obtain ⟨B, hB⟩ : ∃ B, B = s.extract 1 (l.length - 1) := ⟨_, rfl⟩
      have hBl : B.data.toList = (l.take (l.length - 1)).drop 1 := by rw [hB, extract_piece, HL.out]
      have hBs : B.size = l.length - 2 := by rw [hB, ByteArray.size_extract]; omega
      by_cases h4 : l.length = 2
      · have hE : B.toList = [] := by
          rw [ByteArray.toList_eq, hBl]; apply List.eq_nil_of_length_eq_zero; simp; omega
        rw [hB] at hE
        have hr := HR2.out.trans (if_pos h4)
        subst hr
        have hE2 : (s.extract 1 (l.length - 1)).toList.isEmpty = true := by rw [hE]; rfl
        have hE3 : ((s.extract 1 (l.length - 1)).toList == []) = true := by rw [hE]; rfl
        clear HR2 hB hBl hBs h4 h2
        go_enter Tryz.func33, Tryz.ntmps33
        go_wp2_with fail
        go_ret2
        exact parsedS_err (Below.refl _ _)
      · have hE : ¬ B.toList = [] := by
          rw [ByteArray.toList_eq]
          intro e
          have : B.size = 0 := by rw [size_list, e]; rfl
          omega
        have hr := HR2.out.trans (if_neg h4)
        rw [← hBl] at hr
        have hE2 : (s.extract 1 (l.length - 1)).toList.isEmpty = false := by rw [← hB]; cases h : B.toList with | nil => exact absurd h hE | cons => rfl
        have hE3 : ((s.extract 1 (l.length - 1)).toList == []) = false := by rw [← hB, beq_eq_false_iff_ne]; exact hE
        rw [hB] at hE
        have HR3 := Lib.hid hr; clear hr HR2 h4
        have HBS := Lib.hid hBs; clear hBs hBl h2
        have PC := Lib.hid (spieces_any B w (by have := HBS.out; omega))
        go_enter Tryz.func33, Tryz.ntmps33
        go_wp2_with fail
        rw [← hB]
        refine PC.out.mono ?_; clear PC
        rintro e w1 ⟨g, pc, xs, rfl, hxs, hrow, hb1⟩
        have hgl := (hrow.lt g rfl).2
        have hcells : ∀ j (h : j < xs.length), w1.cell? ⟨g, j, none⟩ = some (.string xs[j]) := fun j h => by
          have := hrow.cells (g := g) rfl j (.string xs[j]) (by rw [List.getElem?_map, List.getElem?_eq_getElem h]; rfl)
          unfold Addr.add at this
          split at this <;> simp_all
        have hxl : xs.length ≤ 100000 := by
          have e1 : xs.length = (piecesE B.data.toList).length := by rw [← hxs]; simp
          have e2 := pieces_count B.data.toList
          rw [← size_list] at e2
          have := HBS.out
          omega
        have hxz : ∀ x ∈ xs, x.size ≤ 100000 := fun x hx => by
          have h : x.data.toList ∈ piecesE B.data.toList := by rw [← hxs]; exact List.mem_map_of_mem (f := fun y : ByteArray => y.data.toList) hx
          have := pieces_len h
          rw [← size_list, ← size_list] at this
          have := HBS.out
          omega
        have CF := containsS_any xs g pc 72 (fun p => !Lib.contains p [32, 61, 32]) w1 (enters_of Tryz.func72 (by kernel_rfl) rfl) (fun x hx Z hZ => sparse1_any x Z (hxz x hx) ((hm.below hb1).below hZ)) (by omega) hgl hcells
        rw [hxs] at CF
        have hb := HR3.out
        unfold bodyE at hb
        generalize hq : (piecesE B.data.toList).any (fun p => !Lib.contains p [32, 61, 32]) = q at *
        have CF := Lib.hid CF
        clear hq
        cases q with
        | true =>
          rw [if_pos rfl] at hb
          subst hb
          clear HR3 hcells
          go_wp2_with fail
          refine CF.out.mono ?_; clear CF
          rintro e w2 ⟨rfl, hb2⟩
          go_wp2_with fail
          go_ret2
          exact parsedS_err (below_then hb1 hb2 hb1.size)
        | false =>
          rw [if_neg (by simp)] at hb
          have HB := Lib.hid hb; clear hb
          have HXS := Lib.hid hxs; clear hxs
          clear HR3
          have HCE := Lib.hid hcells; clear hcells
          have HXZ := Lib.hid hxz; clear hxz
          have HB1 := Lib.hid hb1; clear hb1
          have HM := Lib.hid hm; clear hm
          have HW := Lib.hid hw; clear hw
          have HROW := Lib.hid hrow; clear hrow
          go_wp2_with fail
          refine CF.out.mono ?_; clear CF
          rintro e w2 ⟨rfl, hb2⟩
          have HB2 := Lib.hid (below_then HB1.out hb2 HB1.out.size)
          have HB12 := Lib.hid hb2; clear hb2
          go_wp2_with fail
          have hpl : (piecesE B.data.toList).length = xs.length := by rw [← HXS.out]; simp
          go_loopw [5, 44] (fun v i wr => ∃ (k c0 : Nat) (A0 : Option Addr) (its : List IB), k ≤ xs.length ∧ i = .int .i64 k ∧ v = .slice A0 its.length c0 ∧ Hid (its.length = k) ∧ Hid (RowB wr w2.heap.size (fun b => w2.heap.size ≤ b) (.slice A0 its.length c0) its) ∧
              Hid (its.map IB.bd = ((piecesE B.data.toList).take k).map bdP) ∧ Hid (errP (piecesE B.data.toList) = errP ((piecesE B.data.toList).drop k)) ∧ Hid (Below w2.heap.size w2 wr)) (fun _ i _ => xs.length - (intOf i).toNat)
          case atStart => exact ⟨0, 0, none, [], Nat.zero_le _, rfl, rfl, rfl, RowB.nil _ _ _, rfl, rfl, Below.refl _ _⟩
          case round =>
            obtain ⟨k, c0, A0, its, hk, rfl, rfl, HM2, HRB, HMAP, HERR, HBW⟩ := hrel
            by_cases hlt : k < xs.length
            · have i5 : (k : Int) < (xs.length : Int) := by omega
              have hws := HBW.out.size
              have hw2 := HB2.out.size
              have hwk := (below_then HB2.out HBW.out HB2.out.size)
              have hgk : wr.cell? ⟨g, k, none⟩ = some (.string xs[k]) := by
                have h12 := HB12.out.size
                rw [(HBW.out).cell (p := ⟨g, k, none⟩) (by show g < w2.heap.size; omega), HB12.out.cell (p := ⟨g, k, none⟩) hgl]
                exact HCE.out k hlt
              have hxk := HXZ.out xs[k] (List.getElem_mem hlt)
              obtain ⟨-, m, hmm⟩ := HM.out.below hwk
              have CU := (Tryz.strings_Cut xs[k] ⟨#[32, 61, 32]⟩ m wr (by omega) hmm)
              have HWK := Lib.hid hwk; clear hwk
              have e2 : (⟨#[32, 61, 32]⟩ : ByteArray).data.toList = [32, 61, 32] := rfl
              rw [e2] at CU
              obtain ⟨ct, hct⟩ : ∃ ct, ct = Lib.cut xs[k].data.toList [32, 61, 32] := ⟨_, rfl⟩
              rw [← hct] at CU
              obtain ⟨ca, cb, cq⟩ := ct
              dsimp only at CU
              have HCT := Lib.hid hct; clear hct
              have CU := Lib.hid CU
              go_wp2_with fail
              refine CU.out.mono ?_; clear CU
              rintro e w3 ⟨rfl, nd, rfl⟩
              have hcl := cut_len xs[k].data.toList [32, 61, 32]
              have hdk : (piecesE B.data.toList).drop k = xs[k].data.toList :: (piecesE B.data.toList).drop (k + 1) := by
                rw [← HXS.out, ← List.map_drop, List.drop_eq_getElem_cons hlt, List.map_cons, List.map_drop]
              have htk : (piecesE B.data.toList).take (k + 1) = (piecesE B.data.toList).take k ++ [xs[k].data.toList] := by
                rw [← HXS.out, ← List.map_take, List.take_succ_eq_append_getElem hlt, List.map_append, List.map_take]; rfl
              have herr := HERR.out
              rw [hdk, errP, ← HCT.out] at herr
              have hbd : bdP xs[k].data.toList = ((parseE ca).1, (parseE cb).1) := by unfold bdP; rw [← HCT.out]
              rw [← HCT.out, ← size_list] at hcl
              obtain ⟨hca, hcb⟩ : ca.length ≤ xs[k].size ∧ cb.length ≤ xs[k].size := hcl
              have hd0 : Below wr.heap.size wr (wr.drewN nd) := drewN_below wr nd
              have hbw0 : Below w.heap.size w (wr.drewN nd) := below_then HWK.out hd0 HWK.out.size
              have P1 : Calls Tryz.prog 75 #[.string ⟨ca.toArray⟩] (wr.drewN nd) (Parsed ca (wr.drewN nd)) := parse_any ⟨ca.toArray⟩ (wr.drewN nd) (by show ca.toArray.size ≤ _; rw [List.size_toArray]; omega) (HW.out.below hbw0)
              have P2 : Hid (∀ Z, Below wr.heap.size wr Z → Calls Tryz.prog 75 #[.string ⟨cb.toArray⟩] Z (Parsed cb Z)) := Lib.hid fun Z h => parse_any ⟨cb.toArray⟩ Z (by show cb.toArray.size ≤ _; rw [List.size_toArray]; omega) (HW.out.below (below_then HWK.out h HWK.out.size))
              obtain ⟨⟨u, n⟩, hq⟩ : ∃ q, q = parseE ca := ⟨_, rfl⟩
              obtain ⟨⟨u', n'⟩, hq'⟩ : ∃ q, q = parseE cb := ⟨_, rfl⟩
              unfold Parsed at P1 P2
              rw [← hq] at P1 herr hbd
              rw [← hq'] at P2 herr hbd
              dsimp only at P1 P2 herr hbd
              clear hq hq'
              have HDK := Lib.hid hdk; clear hdk
              have HTK := Lib.hid htk; clear htk
              have HBD := Lib.hid hbd; clear hbd
              have HE := Lib.hid herr; clear herr HERR
              have P1 := Lib.hid P1
              have HD0 := Lib.hid hd0; clear hd0
              have HBW0 := Lib.hid hbw0; clear hbw0
              go_wp2_with fail
              refine P1.out.mono ?_; clear P1
              rintro e w4 ⟨A4, c4, rfl, hr4, hb4⟩
              obtain ⟨X, hX⟩ : ∃ X, X = w4.alloc (.cells #[.int .i64 u.kind, .string u.name, .int .i64 u.sort, .slice A4 u.kids.length c4] 24) := ⟨_, rfl⟩
              have hbX : Below w4.heap.size w4 X := by rw [hX]; exact below1 (Nat.le_refl _) _
              have hsX : X.heap.size = w4.heap.size + 1 := by rw [hX]; simp
              have hux : X.heap[w4.heap.size]? = some (.cells #[.int .i64 u.kind, .string u.name, .int .i64 u.sort, .slice A4 u.kids.length c4] 24 (0, 0)) := by rw [hX]; exact heap_alloc_new _ _
              have hd4 : Below wr.heap.size wr w4 := below_then HD0.out hb4 HD0.out.size
              have hs4 := hd4.size
              have hdX : Below wr.heap.size wr X := below_then hd4 hbX hs4
              have hrX : RepP X (fun b => (wr.drewN nd).heap.size ≤ b ∧ b < w4.heap.size) u A4 c4 := RepP.mono (fun _ h => h) (fun p ⟨_, hp⟩ => hbX.cell hp) _ _ _ hr4
              have P2 := Lib.hid (P2.out X hdX)
              have HX := Lib.hid hX; clear hX
              have HUX := Lib.hid hux; clear hux
              have HRX := Lib.hid hrX; clear hrX hr4 hb4
              have HDX := Lib.hid hdX; clear hdX hd4
              simp only [Tm.val]
              rcases eq_facts n 0 with ⟨h0, e0, n0⟩ | ⟨h0, e0, n0⟩
              rotate_left
              · have he : errP (piecesE B.data.toList) = n := by rw [HE.out, if_pos h0]
                have hb := HB.out
                rw [he, if_pos h0] at hb
                subst hb
                clear HE he P2 h0
                go_wp2_with fail
                go_ret2
                rw [← HX.out]
                exact parsedS_err (below_then HWK.out HDX.out HWK.out.size)
              subst h0
              have HE1 := Lib.hid (HE.out.trans (if_neg (by simp))); clear HE
              go_wp2_with fail
              rw [← HX.out]
              refine P2.out.mono ?_; clear P2
              rintro e w5 ⟨A5, c5, rfl, hr5, hb5⟩
              obtain ⟨Y, hY⟩ : ∃ Y, Y = w5.alloc (.cells #[.int .i64 u'.kind, .string u'.name, .int .i64 u'.sort, .slice A5 u'.kids.length c5] 24) := ⟨_, rfl⟩
              have hbY : Below w5.heap.size w5 Y := by rw [hY]; exact below1 (Nat.le_refl _) _
              have hsY : Y.heap.size = w5.heap.size + 1 := by rw [hY]; simp
              have huy : Y.heap[w5.heap.size]? = some (.cells #[.int .i64 u'.kind, .string u'.name, .int .i64 u'.sort, .slice A5 u'.kids.length c5] 24 (0, 0)) := by rw [hY]; exact heap_alloc_new _ _
              have hs5 := hb5.size
              have hXY : Below X.heap.size X Y := below_then hb5 hbY hs5
              have hdY : Below wr.heap.size wr Y := below_then HDX.out hXY HDX.out.size
              have hux := (hXY.block _ (by omega)).trans HUX.out
              have hrX : RepP Y (fun b => (wr.drewN nd).heap.size ≤ b ∧ b < w4.heap.size) u A4 c4 := RepP.mono (fun _ h => h) (fun p ⟨_, hp⟩ => hXY.cell (by omega)) _ _ _ HRX.out
              have hrY : RepP Y (fun b => X.heap.size ≤ b ∧ b < w5.heap.size) u' A5 c5 := RepP.mono (fun _ h => h) (fun p ⟨_, hp⟩ => hbY.cell hp) _ _ _ hr5
              simp only [Tm.val]
              rcases eq_facts n' 0 with ⟨h1, e1, n1⟩ | ⟨h1, e1, n1⟩
              rotate_left
              · have he : errP (piecesE B.data.toList) = n' := by rw [HE1.out, if_pos h1]
                have hb := HB.out
                rw [he, if_pos h1] at hb
                subst hb
                have HY := Lib.hid hY
                have HDY := Lib.hid hdY
                clear HE1 he hY hdY hux hrX hrY huy hXY hr5 hb5 hbY h1
                go_wp2_with fail
                go_ret2
                rw [← HY.out]
                exact parsedS_err (below_then HWK.out HDY.out HWK.out.size)
              subst h1
              have HE2 := Lib.hid (HE1.out.trans (if_neg (by simp))); clear HE1
              have hrow := HRB.out.below hdY
              have hdw : (wr.drewN nd).heap.size = wr.heap.size := rfl
              have hbYw := below_then HBW.out hdY HBW.out.size
              have hwk := HBW.out.size
              have hlen : its.length + 1 ≤ 100000000 := by have := HM2.out; omega
              obtain ⟨g2, cap2, w6, hap, hrow6, hbl6⟩ := hrow.more2 hbYw.size ((u, A4, c4), (u', A5, c5))
                (RepP.mono (fun b ⟨g1, g2⟩ => ⟨by show w2.heap.size ≤ b; omega, by omega, fun e => by have := (HRB.out.lt _ e).2; omega⟩) (fun _ _ => rfl) _ _ _ hrX)
                (RepP.mono (fun b ⟨g1, g2⟩ => ⟨by show w2.heap.size ≤ b; omega, by omega, fun e => by have := (HRB.out.lt _ e).2; have := HDX.out.size; omega⟩) (fun _ _ => rfl) _ _ _ hrY) hlen
              have HBL := Lib.hid (hbl6 _ _ hbYw (Nat.le_refl _)); clear hbl6
              have HROW6 := Lib.hid hrow6; clear hrow6 hrow
              obtain ⟨d0, d1, d2, d3, -⟩ := box_at hux
              obtain ⟨u0, u1, u2, u3, -⟩ := box_at huy
              rw [hY] at d0 d1 d2 d3 u0 u1 u2 u3
              rw [hsY] at hap
              dsimp only at hap
              have HY := Lib.hid hY
              clear hY hdY hux hrX hrY huy hXY hr5 hb5 hbY hbYw
              go_wp2_with (at_builtin; rw [← HY.out]; refine wpList_run_append rfl _ _ rfl rfl rfl hap ?_)
              go_roundw
              case rel =>
                refine ⟨k + 1, cap2, some ⟨g2, 0, none⟩, its ++ [((u, A4, c4), (u', A5, c5))], by omega, by go_num, by rw [List.length_append]; rfl, by show _ = _; rw [List.length_append, HM2.out]; rfl, by rw [List.length_append]; exact HROW6.out, ?_, HE2.out, ?_⟩
                · show _ = _
                  rw [List.map_append, HMAP.out, HTK.out, List.map_append, List.map_singleton, List.map_singleton, HBD.out]; rfl
                · exact HBL.out
              case measure => simp [intOf]; omega
            · obtain rfl : k = xs.length := by omega
              have he : errP (piecesE B.data.toList) = 0 := by
                have := HERR.out
                rw [List.drop_eq_nil_of_le (by omega)] at this; exact this
              have hb := HB.out
              rw [if_neg (by rw [he]; simp)] at hb
              obtain ⟨Av, cv, hv, hS⟩ := HRB.out.toB (P := fun b => b < wr.heap.size) (fun b _ h => h) (fun b _ h => h)
              injection hv with hv1 _ hv3
              subst hv1 hv3
              have hmap := HMAP.out
              rw [List.take_of_length_le (by omega)] at hmap
              rw [hmap] at hS
              have hsl : its.length = ((piecesE B.data.toList).map bdP).length := by rw [← hmap]; simp
              have hsz : SizeB ((piecesE B.data.toList).map bdP) := fun b hb => by
                obtain ⟨p, hp, rfl⟩ := List.mem_map.1 hb
                have h := pieces_len hp
                rw [← size_list] at h
                have := HBS.out
                exact bdP_size (by omega)
              have SV := svalid_any _ A0 c0 wr hsz hS
              rw [← hsl] at SV
              obtain ⟨R, hR⟩ : ∃ R, R = (piecesE B.data.toList).map bdP := ⟨_, rfl⟩
              rw [← hR] at SV hb hS hsl
              obtain ⟨vs, hvs⟩ : ∃ v, v = validS R := ⟨_, rfl⟩
              rw [← hvs] at SV hb
              have SV := Lib.hid SV
              have HS := Lib.hid hS; clear hS
              have HSL := Lib.hid hsl; clear hsl hmap he hR hvs
              have hB3 := Lib.hid (below_then HB2.out HBW.out HB2.out.size)
              rcases eq_facts vs 0 with ⟨h0, e0, n0⟩ | ⟨h0, e0, n0⟩
              · subst h0
                rw [if_neg (by simp)] at hb
                have HBB := Lib.hid hb; clear hb
                go_wp2_with fail
                refine SV.out.mono ?_; clear SV
                rintro e w4 ⟨rfl, hl4⟩
                go_wp2_with fail
                go_ret2
                rw [HBB.out]
                exact ⟨A0, c0, by rw [HSL.out]; rfl, HS.out.go hl4.below hl4.size, below_then hB3.out hl4.below hB3.out.size⟩
              · rw [if_pos h0] at hb
                have HBB := Lib.hid hb; clear hb h0
                go_wp2_with fail
                refine SV.out.mono ?_; clear SV
                rintro e w4 ⟨rfl, hl4⟩
                go_wp2_with fail
                go_ret2
                rw [HBB.out]
                exact parsedS_err (below_then hB3.out hl4.below hB3.out.size)
    · have f1 : (c != 123) = false := by simp [hc3]
      have f2 : (z != 125) = true := by simp [hz3]
      have hr : r = ([], 2) := by
        rw [HR.out, if_pos]
        refine .inr (.inr fun e => hz3 ?_)
        rw [List.getElem?_eq_getElem (by omega)] at e
        injection e with e
        rw [hz, e]; rfl
      subst hr
      clear HR hc3 hz3 hc hz e0 e1 hat
      go_enter Tryz.func33, Tryz.ntmps33
      go_wp2_with fail
      go_ret2
      exact parsedS_err (Below.refl _ _)
  · have f1 : (c != 123) = true := by simp [hc3]
    have hr : r = ([], 2) := by
      rw [HR.out, if_pos]
      refine .inr (.inl fun e => hc3 ?_)
      rw [List.getElem?_eq_getElem (by omega)] at e
      injection e with e
      rw [hc, e]; rfl
    subst hr
    clear HR hc3 hc hz e0 e1 hat
    go_enter Tryz.func33, Tryz.ntmps33
    go_wp2_with fail
    go_ret2
    exact parsedS_err (Below.refl _ _)
end Go.Proofs.YtipmibjhlpnhjaaGreatDoor
