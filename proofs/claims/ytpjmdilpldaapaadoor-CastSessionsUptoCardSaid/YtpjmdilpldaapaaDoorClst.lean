/- The reference's lists. -/
import Derived.Test.YtpjmdilpldaapaaDoorCsess0
import Derived.Test.YtpjmdilpldaapaaDoorUmix5
namespace Go.Proofs.YtpjmdilpldaapaaDoor

/-- the lists of n elements from an index on -/
def lstN {α : Type} (all : List α) (z : α) (n f : Nat) : List (List α) := (idxR all.length n f).map (List.map fun i => all.getD i z)
/-- those whose first element is one of d -/
def lstD {α : Type} (all : List α) (z : α) (n f d : Nat) : List (List α) := (List.range' f d).flatMap fun i => (lstN all z n i).map (all.getD i z :: ·)
theorem lstN_zero {α : Type} (all : List α) (z : α) (f : Nat) : lstN all z 0 f = [[]] := rfl
theorem lstD_zero {α : Type} (all : List α) (z : α) (n f : Nat) : lstD all z n f 0 = [] := rfl
theorem lstD_succ {α : Type} (all : List α) (z : α) (n f d : Nat) : lstD all z n f (d + 1) = lstD all z n f d ++ (lstN all z n (f + d)).map (all.getD (f + d) z :: ·) := by
  unfold lstD
  rw [List.range'_concat, List.flatMap_append]
  simp
theorem lstN_succ {α : Type} (all : List α) (z : α) (n f : Nat) : lstN all z (n + 1) f = lstD all z n f (all.length - f) := by
  unfold lstN lstD lstN
  rw [idxR, map_flatMap]
  refine flatMap_congr' _ fun i _ => ?_
  rw [List.map_map, List.map_map]
  rfl
theorem lstN_length {α : Type} (all : List α) (z : α) (n f : Nat) (h : f ≤ all.length) : (lstN all z n f).length = cnt n (all.length - f) := by
  unfold lstN
  rw [List.length_map, idxR_length _ _ _ h]
theorem lstD_mono {α : Type} (all : List α) (z : α) (n f : Nat) : ∀ (d e : Nat), (lstD all z n f d).length ≤ (lstD all z n f (d + e)).length
  | _, 0 => Nat.le_refl _
  | d, e + 1 => by
    have := lstD_mono all z n f d e
    rw [← Nat.add_assoc, lstD_succ, List.length_append]
    omega
theorem lstD_le {α : Type} (all : List α) (z : α) (n f d : Nat) (h : d ≤ all.length - f) (hf : f ≤ all.length) : (lstD all z n f d).length ≤ cnt (n + 1) (all.length - f) := by
  have h1 := lstD_mono all z n f d (all.length - f - d)
  rw [show d + (all.length - f - d) = all.length - f by omega, ← lstN_succ, lstN_length _ _ _ _ hf] at h1
  exact h1
theorem lstN_le {α : Type} (all : List α) (z : α) (n f d : Nat) (h : f + d < all.length) : (lstN all z n (f + d)).length ≤ cnt (n + 1) (all.length - f) := by
  rw [lstN_length _ _ _ _ (by omega)]
  exact Nat.le_trans (cnt_up_le n (show all.length - (f + d) ≤ all.length - f by omega)) (cnt_mono _ (by omega) n)
/-- a list's lists, mapped -/
theorem lstN_map {α β : Type} (g : α → β) (all : List α) (z : α) (n f : Nat) : (lstN all z n f).map (List.map g) = lstN (all.map g) (g z) n f := by
  unfold lstN
  rw [List.map_map, List.length_map]
  refine List.map_congr_left fun l _ => ?_
  show List.map g (List.map _ l) = _
  rw [List.map_map]
  refine List.map_congr_left fun i _ => ?_
  simp only [Function.comp, List.getD, List.getElem?_map]
  cases all[i]? <;> rfl
/-- the answer of the reference's Sessions is the program's -/
theorem sessL_lst (all : List Ss) (n : Nat) : sessL all n = if 2000 < cnt n all.length then [] else lstN all (0, []) n 0 := rfl
theorem lst_mem {α : Type} {all : List α} {z : α} {n f : Nat} {l : List α} (h : l ∈ lstN all z n f) : ∀ x ∈ l, x ∈ all := by
  obtain ⟨q, hq, rfl⟩ := List.mem_map.1 h
  intro x hx
  obtain ⟨i, hi, rfl⟩ := List.mem_map.1 hx
  have := (mem_idxR _ _ _ _ hq).2 i hi
  simp [List.getD, this]
end Go.Proofs.YtpjmdilpldaapaaDoor
namespace Go.Proofs.YtpjmdilpldaapaaDoor
open Go.RowKit Go.Sort

/-- rows of lists of sessions that a call builds -/
def LstOf (w : World) (L : List (List Se)) (e : Ending) (w' : World) : Prop :=
  ∃ v ivs, e = .returned v ∧ SRow 58 2 w' w.heap.size v ivs ∧ ivs.map (·.1) = L.map (·.flatMap seCells) ∧ Below w.heap.size w w'
def sz0 : Se := ((0, []), none, 0)
attribute [local irreducible] wpMix4
set_option linter.unusedSimpArgs false in
set_option linter.unusedVariables false in
set_option maxHeartbeats 8000000 in
set_option maxRecDepth 100000 in
theorem rlists_ses (its : List Se) (A : Option Addr) (cap : Nat) (hits : its.length ≤ 10000) (n : Nat) : ∀ (f : Nat) (w : World), n ≤ 4 → f ≤ its.length → cnt n (its.length - f) ≤ 2000 →
    RepV w (fun b => b < w.heap.size) 2 (its.flatMap seCells) A its.length cap →
    Calls Tryd.prog 48 #[.slice A its.length cap, .int .i64 f, .int .i64 n] w (LstOf w (lstN its sz0 n f)) := by
  have mixed : Tryd.prog.follows .mixedOrders = true := by kernel_rfl
  induction n with
  | zero =>
    intro f w _ _ _ hc
    have hb1 : Below w.heap.size w (w.alloc (.cells #[] 63)) := below1 (Nat.le_refl _) _
    have hown : ((w.alloc (.cells #[] 63)).alloc (.cells #[.slice (some ⟨w.heap.size, 0, none⟩) 0 0] 58)).ownsRow w.heap.size 58 1 (.slice (some ⟨(w.alloc (.cells #[] 63)).heap.size, 0, none⟩) 1 1) 1 [.slice (some ⟨w.heap.size, 0, none⟩) 0 0] :=
      World.ownsRow_lit _ #[.slice (some ⟨w.heap.size, 0, none⟩) 0 0] 1 (by simp) (by simp [maxLen]) rfl
    have e2 : (w.alloc (.cells #[] 63)).heap.size = w.heap.size + 1 := by simp
    rw [e2] at hown
    clear e2
    have HOWN := Lib.hid hown; have HBW := Lib.hid (hb1.alloc hb1.size (.cells #[.slice (some ⟨w.heap.size, 0, none⟩) 0 0] 58)); clear hown hb1 hc
    rw [show ((0 : Nat) : Int) = 0 from rfl]
    go_enter Tryd.func48, Tryd.ntmps48
    go_wp2_with fail
    go_ret
    exact ⟨_, [([], some ⟨w.heap.size, 0, none⟩, 0, 0)], rfl, ⟨HOWN.out, fun x hx => by rw [List.mem_singleton.1 hx]; exact ⟨rfl, Nat.le_refl _, Nat.zero_le _, .inl rfl⟩⟩, rfl, HBW.out⟩
  | succ n ih =>
    intro f w hn hf hcnt hc
    have IH := Lib.hid ih
    have HC := Lib.hid hc; have HCN := Lib.hid hcnt
    have hz : ((n : Int) + 1 == 0) = false := by rw [beq_eq_false_iff_ne]; omega
    have hi0 : (0 : Int) ≤ (n : Int) := Int.natCast_nonneg _
    have hi4 : (n : Int) ≤ 4 := by omega
    have hsub : ((n : Int) + 1 - 1) = n := by omega
    have hcap := hc.2.1
    have hcap2 := hc.2.2.1
    have HLD : Hid (∀ d, d ≤ its.length - f → (lstD its sz0 n f d).length ≤ 2000) := Lib.hid fun d hd => Nat.le_trans (lstD_le its sz0 n f d hd hf) hcnt
    clear hc ih hcnt
    unfold maxLen at hcap2
    rw [Int.natCast_add, show ((1 : Nat) : Int) = 1 from rfl]
    go_enter Tryd.func48, Tryd.ntmps48
    go_wp2_with fail
    go_loopw [7, 8] (fun v i wr => ∃ (d q : Nat) (ivs : List Iv), Hid (q = f + d) ∧ q ≤ its.length ∧ i = .int .i64 q ∧ Hid (SRow 58 2 wr w.heap.size v ivs) ∧ Hid (ivs.map (·.1) = (lstD its sz0 n f d).map (·.flatMap seCells)) ∧ Hid (Below w.heap.size w wr)) (fun _ i _ => its.length - (intOf i).toNat)
    case atStart => exact ⟨0, f, [], rfl, hf, rfl, SRow.nil _ _ _ _, rfl, Below.refl _ _⟩
    case round =>
      obtain ⟨d, q, ivs, HQ, hd, rfl, HROW, HITS, HB⟩ := hrel
      have i1 : (0 : Int) ≤ (q : Int) := Int.natCast_nonneg _
      have hvl : ivs.length = (lstD its sz0 n f d).length := by have := congrArg List.length HITS.out; simpa using this
      have hvl2 : ivs.length ≤ 2000 := by rw [hvl]; exact HLD.out d (by have := HQ.out; omega)
      by_cases hlt : q < its.length
      · have i2 : (q : Int) < (its.length : Int) := by omega
        have hsz0 : w.heap.size ≤ wr.heap.size := HB.out.size
        have hih := IH.out q wr (by omega) (by omega) (by
          have h1 := HCN.out
          rw [← lstN_length its sz0 n q (by omega), HQ.out]
          exact Nat.le_trans (lstN_le its sz0 n f d (by have := HQ.out; omega)) h1) (RepV.mono (fun b (h : b < w.heap.size) => Nat.lt_of_lt_of_le h hsz0) (fun p hp => HB.out.cell hp) HC.out)
        have HIH := Lib.hid hih
        have HDS : Hid (lstD its sz0 n f (d + 1) = lstD its sz0 n f d ++ (lstN its sz0 n q).map (its.getD q sz0 :: ·)) := Lib.hid (by rw [HQ.out]; exact lstD_succ its sz0 n f d)
        have hdl2 : (lstD its sz0 n f (d + 1)).length ≤ 2000 := HLD.out (d + 1) (by have := HQ.out; omega)
        have hN2 : (lstN its sz0 n q).length ≤ 2000 := by
          have h1 := congrArg List.length HDS.out
          rw [List.length_append, List.length_map] at h1
          omega
        have hgd : its.getD q sz0 = its[q] := by simp [List.getD, hlt]
        rw [hgd] at HDS
        obtain ⟨g0, g1⟩ := seCells_get its q hlt
        obtain ⟨lb, lo, hA, hlb, hlc⟩ := HC.out.at (by omega)
        have c0 := hlc _ _ g0
        have c1 := hlc _ _ g1
        obtain ⟨X, hX⟩ : ∃ X, X = its[q] := ⟨_, rfl⟩
        rw [← hX] at c0 c1 HDS
        subst hA
        have HC0 := Lib.hid c0; have HC1 := Lib.hid c1
        clear hih hgd g0 g1 hlc c0 c1 hX hsz0
        go_wp2_with fail
        refine HIH.out.mono ?_
        rintro e w3 ⟨v3, iv3, rfl, hrow3, hits3, hb3⟩
        obtain ⟨A3, c3, rfl⟩ := hrow3.form
        have hlen3 : iv3.length = (lstN its sz0 n q).length := by have := congrArg List.length hits3; simpa using this
        have hl3 : iv3.length ≤ 2000 := by omega
        have HR3 := Lib.hid hrow3; have HI3 := Lib.hid hits3; have HB3 := Lib.hid hb3; have HN3 := Lib.hid hlen3
        have HRW := Lib.hid (HROW.out.below hb3)
        have HOW : Hid (∀ b, u7.ownBlock = some b → b < wr.heap.size) := Lib.hid fun b hb => (HROW.out.lt b hb).2
        have HBW := Lib.hid (HB.out.trans (hb3.mono HB.out.size))
        clear hrow3 hits3 hb3 hlen3 HIH HROW
        go_wp2_with fail
        generalize wr = wo at *
        go_loopw [7, 10] (fun v j wq => ∃ (m : Nat) (itm : List Iv), m ≤ iv3.length ∧ j = .int .i64 m ∧ itm.length = ivs.length + m ∧ Hid (SRow 58 2 wq w.heap.size v itm) ∧ Hid (itm.map (·.1) = (lstD its sz0 n f d ++ ((lstN its sz0 n q).take m).map (X :: ·)).map (·.flatMap seCells)) ∧ Hid (Below w.heap.size w wq) ∧
            Hid (∀ b, wo.heap.size ≤ b → b < w3.heap.size → wq.heap[b]? = w3.heap[b]?) ∧ Hid (w3.heap.size ≤ wq.heap.size) ∧ Hid (∀ b, v.ownBlock = some b → b < wo.heap.size ∨ w3.heap.size ≤ b)) (fun _ j _ => iv3.length - (intOf j).toNat)
        case atStart => exact ⟨0, ivs, Nat.zero_le _, rfl, rfl, HRW.out, by show _ = _; rw [HITS.out]; simp, HBW.out, fun _ _ _ => rfl, Nat.le_refl _, fun b hb => .inl (HOW.out b hb)⟩
        case round =>
          obtain ⟨m, itm, hm, rfl, hil, HRQ, HIQ, HBQ, HKQ, HSQ, HOQ⟩ := hrel
          have j1 : (0 : Int) ≤ (m : Int) := Int.natCast_nonneg _
          clear HRW HBW HOW
          by_cases hltm : m < iv3.length
          · have j2 : (m : Int) < (iv3.length : Int) := by omega
            have hmt : m < (lstN its sz0 n q).length := by have := HN3.out; omega
            have hsr := HR3.out.keep HSQ.out (fun b h1 h2 => HKQ.out b h1 h2)
            obtain ⟨g3, c3', hA3, hslot⟩ := HR3.out.slot m hltm
            have hg3 := HR3.out.lt g3 (by rw [hA3]; rfl)
            have hrp := RepV.mono (P' := fun b => wo.heap.size ≤ b ∧ b < w3.heap.size) (fun b h => ⟨h.1, h.2.1⟩) (fun _ _ => rfl) (HR3.out.reps iv3[m] (List.getElem_mem hltm))
            have hx : iv3[m].1 = ((lstN its sz0 n q)[m]).flatMap seCells := by
              have := congrArg (·[m]?) HI3.out
              simpa [hltm, hmt] using this
            have HTK := Lib.hid (List.take_succ_eq_append_getElem hmt)
            have hrl : ((lstN its sz0 n q)[m]).length = n := by
              obtain ⟨q, hq, he⟩ := List.mem_map.1 (show (lstN its sz0 n q)[m] ∈ (idxR its.length n q).map _ from List.getElem_mem hmt)
              rw [← he, List.length_map]
              exact (mem_idxR _ _ _ _ hq).1
            obtain ⟨rest, hrest⟩ : ∃ rest, rest = (lstN its sz0 n q)[m] := ⟨_, rfl⟩
            rw [← hrest] at hx HTK hrl
            obtain ⟨V, hV⟩ : ∃ V, V = iv3[m] := ⟨_, rfl⟩
            rw [← hV] at hslot hrp hx
            clear hV hrest hsr
            obtain ⟨vs, Ar, nr, cr⟩ := V
            simp only at hx hrp
            subst hx
            injection hA3 with hA31 _ hA33
            subst hA31 hA33
            simp only [ivVal] at hslot
            have HRP := Lib.hid hrp
            have HNR : Hid (nr = n) := Lib.hid (by have := hrp.1; rw [seCells_length] at this; omega)
            have HSL := Lib.hid hslot; have HG3 : Hid (wo.heap.size ≤ g3 ∧ g3 < w3.heap.size) := Lib.hid hg3
            have hnr4 : nr ≤ 4 := by have := HNR.out; omega
            clear hrp hslot hg3
            go_wp2_with fail
            refine wp_region_mix4 (fun _ => True) (fun Y => Below w.heap.size w Y ∧ (∀ b, wo.heap.size ≤ b → b < w3.heap.size → Y.heap[b]? = w3.heap[b]?)) [] (.held 0 (.held 1 (.held 2 (.held 3 (.held 4 (.held 6 (.held 7 (.held 8 (.held 9 (.op 5 (.op 10 (.op 11 (.op 12 (.held 13 .nil)))))))))))))) mixed (by kernel_rfl) ?_
            have hDb : Below wr.heap.size wr wr.drew := (Below.refl _ _).drew
            have HRX := Lib.hid (HRQ.out.below hDb)
            have HBX : Hid (Below w.heap.size w wr.drew) := Lib.hid HBQ.out.drew
            have HKX : Hid (∀ b, wo.heap.size ≤ b → b < w3.heap.size → wr.drew.heap[b]? = w3.heap[b]?) := HKQ
            have HSX : Hid (w3.heap.size ≤ wr.drew.heap.size) := HSQ
            clear hDb HRQ HBQ HKQ HSQ
            generalize wr.drew = D at *
            have HBD : Hid (Below D.heap.size D D) := Lib.hid (Below.refl _ _)
            have HS0 : Hid (Below w.heap.size w D ∧ (∀ b, wo.heap.size ≤ b → b < w3.heap.size → D.heap[b]? = w3.heap[b]?)) := Lib.hid ⟨HBX.out, HKX.out⟩
            have HSB : Hid (∀ Y, Below D.heap.size D Y → Below w.heap.size w Y ∧ (∀ b, wo.heap.size ≤ b → b < w3.heap.size → Y.heap[b]? = w3.heap[b]?)) := Lib.hid fun Y hY => ⟨HBX.out.trans (hY.mono HBX.out.size), fun b h1 h2 => (hY.block b (by have := HSX.out; omega)).trans (HKX.out b h1 h2)⟩
            refine mix4_take (v := u7) rfl rfl rfl (fun _ _ _ h => h) trivial HS0.out (fun Y _ hY => by
              (try simp only [Act.put]); go_simp) ?_
            refine mix4_take (v := .slice (some ⟨lb, lo, none⟩) its.length cap) rfl rfl rfl (fun _ _ _ h => h) trivial HS0.out (fun Y _ hY => by
              (try simp only [Act.put]); go_simp) ?_
            refine mix4_take (v := .int .i64 q) rfl rfl rfl (fun _ _ _ h => h) trivial HS0.out (fun Y _ hY => by
              (try simp only [Act.put]); go_simp) ?_
            refine mix4_take (v := .pointer (some ⟨lb, lo + q * 2, none⟩)) rfl rfl rfl (fun _ _ _ h => h) trivial HS0.out (fun Y _ hY => by
              (try simp only [Act.put]); go_simp) ?_
            (try simp only [Act.put, List.setIfInBounds_toArray, List.set_cons_succ, List.set_cons_zero, List.getElem_toArray, List.getElem_cons_succ, List.getElem_cons_zero])
            refine mix4_take (v := .agg #[.int .i64 X.1.1, .slice X.2.1 X.1.2.length X.2.2]) rfl rfl rfl (fun _ _ _ h => h) trivial HS0.out (fun Y _ hY => by
              have zc := (hY.1.cell (World.block_lt HC0.out)).trans HC0.out
              have zc1 : Y.cell? ⟨lb, lo + q * 2 + 1, none⟩ = _ := (hY.1.cell (World.block_lt HC1.out)).trans HC1.out
              clear hY
              (try simp only [Act.put]); go_simp) ?_
            refine mix4_take (v := .slice (some ⟨g3, 0, none⟩) iv3.length c3) rfl rfl rfl (fun _ _ _ h => h) trivial HS0.out (fun Y _ hY => by
              (try simp only [Act.put]); go_simp) ?_
            refine mix4_take (v := .int .i64 m) rfl rfl rfl (fun _ _ _ h => h) trivial HS0.out (fun Y _ hY => by
              (try simp only [Act.put]); go_simp) ?_
            refine mix4_take (v := .pointer (some ⟨g3, m, none⟩)) rfl rfl rfl (fun _ _ _ h => h) trivial HS0.out (fun Y _ hY => by
              (try simp only [Act.put]); go_simp) ?_
            (try simp only [Act.put, List.setIfInBounds_toArray, List.set_cons_succ, List.set_cons_zero, List.getElem_toArray, List.getElem_cons_succ, List.getElem_cons_zero])
            refine mix4_take (v := .slice Ar nr cr) rfl rfl rfl (fun _ _ _ h => h) trivial HS0.out (fun Y _ hY => by
              have zc := (World.cell?_of_block (hY.2 g3 HG3.out.1 HG3.out.2)).trans HSL.out
              clear hY
              (try simp only [Act.put]); go_simp) ?_
            (try simp only [Act.put, List.setIfInBounds_toArray, List.set_cons_succ, List.set_cons_zero, List.getElem_toArray, List.getElem_cons_succ, List.getElem_cons_zero])
            refine mix4_op rfl rfl (fun K hK => ?_)
            go_wp2_with fail
            refine ⟨⟨fun _ => trivial, HSB.out _ (HBD.out.alloc (Nat.le_refl _) _)⟩, ?_⟩
            have HL5 : Hid ((D.alloc (.cells #[.int .i64 X.1.1, .slice X.2.1 X.1.2.length X.2.2] 63)).ownsRow D.heap.size 63 2 (.slice (some ⟨D.heap.size, 0, none⟩) 1 1) 1 (seCells X)) := Lib.hid (World.ownsRow_lit D #[.int .i64 X.1.1, .slice X.2.1 X.1.2.length X.2.2] 1 (Nat.le_refl _) (by simp [maxLen]) rfl)
            have HB5 : Hid (Below D.heap.size D (D.alloc (.cells #[.int .i64 X.1.1, .slice X.2.1 X.1.2.length X.2.2] 63))) := Lib.hid (HBD.out.alloc (Nat.le_refl _) _)
            generalize hY5 : D.alloc (.cells #[.int .i64 X.1.1, .slice X.2.1 X.1.2.length X.2.2] 63) = Y5 at *
            clear hY5
            have hrp5 : RepV Y5 (fun q => wo.heap.size ≤ q ∧ q < w3.heap.size) 2 (rest.flatMap seCells) Ar nr cr := RepV.mono (fun _ h => h) (fun p hp => (HB5.out.cell (by have := HSX.out; have := hp.2; omega)).trans (World.cell?_of_block (HKX.out _ hp.1 hp.2))) HRP.out
            obtain ⟨v10, Y10, hap10, ho10, hg10⟩ := row_addV slSe HL5.out HB5.out.size hrp5 (seCells_one rest) (by unfold maxLen; omega) (by omega)
            have HB10 : Hid (Below D.heap.size D Y10) := Lib.hid (HB5.out.trans hg10.below)
            obtain ⟨A10, c10, hv10, hrep10⟩ := repV_own ho10
            subst hv10
            have HR10 := Lib.hid (HRX.out.below HB10.out)
            have hX10 : RepV Y10 (fun q => w.heap.size ≤ q ∧ q < Y10.heap.size ∧ (u7 : Value).ownBlock ≠ some q) 2 ((X :: rest).flatMap seCells) A10 (1 + nr) c10 := by
              have := hrep10 (fun q => w.heap.size ≤ q ∧ q < Y10.heap.size ∧ (u7 : Value).ownBlock ≠ some q) (fun q h1 h2 _ => ⟨by have := HBX.out.size; omega, h2, fun e => by have := (HRX.out.lt q e).2; omega⟩)
              rw [List.flatMap_cons]
              exact this
            obtain ⟨g5, c5, Y12, hap12, hr12, hg12⟩ := srow_add slSes HR10.out (by have := HBX.out.size; have := HB10.out.size; omega) ((X :: rest).flatMap seCells, A10, 1 + nr, c10) hX10 (by omega)
            have HR12 := Lib.hid hr12
            have HB12 := Lib.hid (HBX.out.trans ((HB10.out.mono HBX.out.size).trans hg12.below))
            have HK12 : Hid (∀ b, wo.heap.size ≤ b → b < w3.heap.size → Y12.heap[b]? = w3.heap[b]?) := Lib.hid fun b h1 h2 => by
              have := HSX.out; have := HB10.out.size
              rw [hg12.old b (by omega) (fun e => by rcases HOQ.out b e with h | h <;> omega), HB10.out.block b (by omega)]; exact HKX.out b h1 h2
            have HS12 : Hid (w3.heap.size ≤ Y12.heap.size) := Lib.hid (by have := HSX.out; have := HB10.out.size; have := hg12.size; omega)
            have HO12 : Hid (∀ b, (Value.slice (some ⟨g5, 0, none⟩) (itm.length + 1) c5).ownBlock = some b → b < wo.heap.size ∨ w3.heap.size ≤ b) := Lib.hid fun b hb => by
              rcases hg12.own with h | h
              · rw [h] at hb; exact HOQ.out b hb
              · right; have := h b hb; have := HSX.out; have := HB10.out.size; omega
            have HI12 : Hid ((itm ++ [(((X :: rest).flatMap seCells, A10, 1 + nr, c10) : Iv)]).map (·.1) = (lstD its sz0 n f d ++ ((lstN its sz0 n q).take (m + 1)).map (X :: ·)).map (·.flatMap seCells)) := by
              show _ = _
              rw [List.map_append, HIQ.out, HTK.out, List.map_append (l₂ := [rest]), ← List.append_assoc (lstD its sz0 n f d), List.map_append (l₂ := List.map _ [rest])]; rfl
            have hl12 : (itm ++ [(((X :: rest).flatMap seCells, A10, 1 + nr, c10) : Iv)]).length = itm.length + 1 := by simp
            have HL12 := Lib.hid hl12
            generalize itm ++ [(((X :: rest).flatMap seCells, A10, 1 + nr, c10) : Iv)] = it5 at *
            simp only [ivVal] at hap12
            clear hrep10 ho10 hX10 hr12 hl12 HR10 HRX HIQ HTK hrp5 HL5 HKX HSX HOQ
            (try simp only [Act.put, List.setIfInBounds_toArray, List.set_cons_succ, List.set_cons_zero, List.getElem_toArray, List.getElem_cons_succ, List.getElem_cons_zero])
            refine mix4_op rfl rfl (fun K hK => ?_)
            refine wp_run_append (.tmp 38) (.tmp 42) (by rfl) (by rfl) (by rfl) hap10 ?_
            refine hK _ _ ⟨⟨fun _ => trivial, HSB.out _ HB10.out⟩, ?_⟩
            clear hK K hap10 hg10
            (try simp only [Act.put, List.setIfInBounds_toArray, List.set_cons_succ, List.set_cons_zero, List.getElem_toArray, List.getElem_cons_succ, List.getElem_cons_zero])
            refine mix4_op rfl rfl (fun K hK => ?_)
            go_wp2_with fail
            refine ⟨⟨fun _ => trivial, HSB.out _ (HB10.out.alloc HB10.out.size _)⟩, ?_⟩
            (try simp only [Act.put, List.setIfInBounds_toArray, List.set_cons_succ, List.set_cons_zero, List.getElem_toArray, List.getElem_cons_succ, List.getElem_cons_zero])
            refine mix4_op rfl rfl (fun K hK => ?_)
            refine wp_run_append (.tmp 33) (.tmp 44) (by rfl) (by rfl) (by rfl) hap12 ?_
            refine hK _ _ ⟨⟨fun _ => trivial, HB12.out, HK12.out⟩, ?_⟩
            clear hK K hap12 hg12
            (try simp only [Act.put, List.setIfInBounds_toArray, List.set_cons_succ, List.set_cons_zero, List.getElem_toArray, List.getElem_cons_succ, List.getElem_cons_zero])
            refine mix4_take (v := .slice (some ⟨g5, 0, none⟩) (itm.length + 1) c5) rfl rfl rfl (fun _ _ _ h => h) trivial ⟨HB12.out, HK12.out⟩ (fun Y _ hY => by
              (try simp only [Act.put]); go_simp) ?_
            (try simp only [Act.put, List.setIfInBounds_toArray, List.set_cons_succ, List.set_cons_zero, List.getElem_toArray, List.getElem_cons_succ, List.getElem_cons_zero])
            refine mix4_nil ?_
            go_wp2_with fail
            go_roundw
            case rel => exact ⟨m + 1, it5, by omega, by go_num, HL12.out.trans (by omega), HR12.out, HI12.out, HB12.out, HK12.out, HS12.out, HO12.out⟩
            case measure => simp [intOf]; omega
          · obtain rfl : m = iv3.length := by omega
            have HI : Hid (itm.map (·.1) = (lstD its sz0 n f (d + 1)).map (·.flatMap seCells)) := by show _ = _; rw [HIQ.out, HDS.out, HN3.out, List.take_length]
            clear HIQ
            go_wp2_with fail
            go_roundw
            case rel => exact ⟨d + 1, q + 1, itm, by have := HQ.out; show _ = _; omega, by omega, by go_num, HRQ.out, HI.out, HBQ.out⟩
            case measure => simp [intOf]; omega
      · have hfd : d = its.length - f := by have := HQ.out; omega
        have HI : Hid (ivs.map (·.1) = (lstN its sz0 (n + 1) f).map (·.flatMap seCells)) := by show _ = _; rw [HITS.out, hfd, ← lstN_succ]
        clear HITS
        go_wp2_with fail
        go_ret
        exact ⟨_, ivs, rfl, HROW.out, HI.out, HB.out⟩
end Go.Proofs.YtpjmdilpldaapaaDoor
