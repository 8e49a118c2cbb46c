/- cast.chosen. -/
import Derived.Test.YtpjmdilpldaapaaDoorCrows
import Derived.Test.YtpjmdilpldaapaaDoorCsplain
namespace Go.Proofs.YtpjmdilpldaapaaDoor
open Go.RowKit Go.Sort

/-- rows of strings are returned -/
def TupsOf (w : World) (L : List (List ByteArray)) (e : Ending) (w' : World) : Prop :=
  ∃ v its, e = .returned v ∧ SRow 22 1 w' w.heap.size v its ∧ its.map (·.1) = L.map strs ∧ Below w.heap.size w w'
def extN (ags l : List ByteArray) (m : Nat) : List (List ByteArray) := ((ags.take m).filter fun a => !hasS l a).map fun a => l ++ [a]
theorem extN_zero (ags l : List ByteArray) : extN ags l 0 = [] := rfl
theorem extN_succ (ags l : List ByteArray) (m : Nat) (h : m < ags.length) : extN ags l (m + 1) = extN ags l m ++ (if hasS l ags[m] = true then [] else [l ++ [ags[m]]]) := by
  unfold extN
  rw [List.take_succ_eq_append_getElem h, List.filter_append, List.map_append]
  congr 1
  cases h2 : hasS l ags[m] <;> simp [h2]
theorem extN_length (ags l : List ByteArray) (m : Nat) : (extN ags l m).length ≤ m := by
  unfold extN
  rw [List.length_map]
  exact Nat.le_trans (List.length_filter_le _ _) (by rw [List.length_take]; omega)
def tupsN (ags : List ByteArray) (n k : Nat) : List (List ByteArray) := ((tups ags n).take k).flatMap fun l => extN ags l ags.length
theorem tupsN_all (ags : List ByteArray) (n : Nat) : tupsN ags n (tups ags n).length = tups ags (n + 1) := by
  unfold tupsN
  rw [List.take_length, tups]
  refine flatMap_congr' _ fun l _ => ?_
  unfold extN
  rw [List.take_length]
theorem tupsN_succ (ags : List ByteArray) (n k : Nat) (h : k < (tups ags n).length) : tupsN ags n (k + 1) = tupsN ags n k ++ extN ags (tups ags n)[k] ags.length := by
  unfold tupsN
  rw [List.take_succ_eq_append_getElem h, List.flatMap_append]
  simp
theorem tups_len4 {ags : List ByteArray} (h6 : ags.length ≤ 6) {n : Nat} (hn : n ≤ 4) : (tups ags n).length ≤ 1296 := by
  have h1 := tups_length ags n
  have h2 : ags.length ^ n ≤ 6 ^ n := Nat.pow_le_pow_left h6 n
  have h3 : 6 ^ n ≤ 6 ^ 4 := Nat.pow_le_pow_right (by omega) hn
  omega
theorem tupsN_length {ags : List ByteArray} (h6 : ags.length ≤ 6) (n k : Nat) : (tupsN ags n k).length ≤ (tups ags n).length * 6 := by
  unfold tupsN
  have : ∀ L : List (List ByteArray), (L.flatMap fun l => extN ags l ags.length).length ≤ L.length * 6 := by
    intro L
    induction L with
    | nil => simp
    | cons x r ih =>
      rw [List.flatMap_cons, List.length_append, List.length_cons, Nat.add_mul]
      have := extN_length ags x ags.length
      omega
  refine Nat.le_trans (this _) (Nat.mul_le_mul_right _ ?_)
  rw [List.length_take]; omega

set_option maxHeartbeats 4000000 in
set_option maxRecDepth 100000 in
theorem chosen_any (ags : List ByteArray) (Aa : Option Addr) (ca : Nat) (h6 : ags.length ≤ 6) (n : Nat) : ∀ (w : World), n ≤ 4 → RepN w (fun b => b < w.heap.size) ags Aa ca →
    Calls Tryd.prog 42 #[.slice Aa ags.length ca, .int .i64 n] w (TupsOf w (tups ags n)) := by
  induction n with
  | zero =>
    intro w _ hc
    have hown : (w.alloc (.cells #[.slice none 0 0] 22)).ownsRow w.heap.size 22 1 (.slice (some ⟨w.heap.size, 0, none⟩) 1 1) 1 [.slice none 0 0] :=
      World.ownsRow_lit w #[.slice none 0 0] 1 (Nat.le_refl _) (by simp [maxLen]) rfl
    have HOWN := Lib.hid hown; clear hown
    go_enter Tryd.func42, Tryd.ntmps42
    go_wp2_with fail
    go_ret
    exact ⟨_, [([], none, 0, 0)], rfl, ⟨HOWN.out, fun x hx => by rw [List.mem_singleton.1 hx]; exact RepV.nil⟩, rfl, below1 (Nat.le_refl _) _⟩
  | succ n ih =>
    intro w hn hc
    have IH := Lib.hid (ih w (by omega) hc)
    have HC := Lib.hid hc
    have hz : ((n : Int) + 1 == 0) = false := by rw [beq_eq_false_iff_ne]; omega
    have hz2 : (((n + 1 : Nat) : Int) == 0) = false := by rw [beq_eq_false_iff_ne]; omega
    have hi0 : (0 : Int) ≤ (n : Int) := Int.natCast_nonneg _
    have hi4 : (n : Int) ≤ 4 := by omega
    have hsub : ((n : Int) + 1 - 1) = n := by omega
    have hl4 := tups_len4 h6 (n := n) (by omega)
    have HL4 := Lib.hid hl4
    clear hc ih
    rw [Int.natCast_add, show ((1 : Nat) : Int) = 1 from rfl]
    go_enter Tryd.func42, Tryd.ntmps42
    go_wp2_with fail
    refine IH.out.mono ?_
    rintro e w1 ⟨v1, its1, rfl, hrow1, hits1, hb1⟩
    have hlen1 : its1.length = (tups ags n).length := by have := congrArg List.length hits1; simpa using this
    obtain ⟨A1, c1, rfl⟩ : ∃ A1 c1, v1 = .slice A1 its1.length c1 := by
      obtain ⟨A, c, h, -⟩ := repV_own hrow1.own
      exact ⟨A, c, h⟩
    have HR1 := Lib.hid hrow1; have HI1 := Lib.hid hits1; have HB1 := Lib.hid hb1; have HN1 := Lib.hid hlen1
    clear hrow1 hits1 hb1 hlen1 IH
    have hl1 : its1.length ≤ 1296 := by rw [HN1.out]; exact HL4.out
    go_wp2_with fail
    go_loopw [5, 18] (fun v i wr => ∃ (k : Nat) (its : List Iv), k ≤ its1.length ∧ i = .int .i64 k ∧ Hid (SRow 22 1 wr w1.heap.size v its) ∧ Hid (its.map (·.1) = (tupsN ags n k).map strs) ∧ Hid (Below w1.heap.size w1 wr)) (fun _ i _ => its1.length - (intOf i).toNat)
    case atStart => exact ⟨0, [], Nat.zero_le _, rfl, SRow.nil _ _ _ _, rfl, Below.refl _ _⟩
    case round =>
      obtain ⟨k, its, hk, rfl, HROW, HITS, HB⟩ := hrel
      have i1 : (0 : Int) ≤ (k : Int) := Int.natCast_nonneg _
      by_cases hlt : k < its1.length
      · have i2 : (k : Int) < (its1.length : Int) := by omega
        have hkt : k < (tups ags n).length := by have := HN1.out; omega
        obtain ⟨g1, c1', hA1, hslot⟩ := (HR1.out.below HB.out).slot k hlt
        have hrp := HR1.out.reps its1[k] (List.getElem_mem hlt)
        have hx : its1[k].1 = strs (tups ags n)[k] := by
          have := congrArg (·[k]?) HI1.out
          simpa [hlt, hkt] using this
        have hts := tupsN_succ ags n k hkt
        obtain ⟨-, -, hmem⟩ := mem_tups ags n (tups ags n)[k] (List.getElem_mem hkt)
        obtain ⟨hd, hhd⟩ : ∃ hd, hd = (tups ags n)[k] := ⟨_, rfl⟩
        rw [← hhd] at hx hts hmem
        have hln : hd.length ≤ 4 := by have := (mem_tups ags n (tups ags n)[k] (List.getElem_mem hkt)).1; rw [← hhd] at this; omega
        obtain ⟨X, hX⟩ : ∃ X, X = its1[k] := ⟨_, rfl⟩
        rw [← hX] at hslot hrp hx
        clear hX hhd
        obtain ⟨vs, Ah, nh, chd⟩ := X
        simp only at hx hrp
        subst hx
        obtain ⟨rfl, hrn⟩ := hrp.toN (fun x hx => HC.out.2.2.1 x (hmem x hx))
        injection hA1 with hA1 _ hA3
        subst hA1 hA3
        simp only [ivVal] at hslot
        have HRN := Lib.hid hrn; have HTS := Lib.hid hts
        clear hrp hrn hts hmem
        have hilk : its.length ≤ 7776 := by
          have h1 := congrArg List.length HITS.out
          have h2 := tupsN_length h6 n k
          simp only [List.length_map] at h1
          have := HL4.out
          omega
        go_wp2_with fail
        go_loopw [5, 24] (fun v j wq => ∃ (m : Nat) (itm : List Iv), m ≤ ags.length ∧ j = .int .i64 m ∧ Hid (SRow 22 1 wq w1.heap.size v itm) ∧ Hid (itm.map (·.1) = (tupsN ags n k ++ extN ags hd m).map strs) ∧ itm.length ≤ its.length + m ∧ Hid (Below w1.heap.size w1 wq)) (fun _ j _ => ags.length - (intOf j).toNat)
        case atStart => exact ⟨0, its, Nat.zero_le _, rfl, HROW.out, by show _ = _; rw [extN_zero, List.append_nil]; exact HITS.out, by omega, HB.out⟩
        case round =>
          obtain ⟨m, itm, hm, rfl, HRW, HIT, hlm, HBQ⟩ := hrel
          have j1 : (0 : Int) ≤ (m : Int) := Int.natCast_nonneg _
          by_cases hltm : m < ags.length
          · have j2 : (m : Int) < (ags.length : Int) := by omega
            have hwq : Below w.heap.size w wr := HB1.out.trans (HBQ.out.mono HB1.out.size)
            obtain ⟨b, off, hAa, -, hcl⟩ := (HC.out.go hwq hwq.size).cells (by intro h; rw [h] at hltm; simp at hltm)
            subst hAa
            have hck := hcl m hltm
            have hes := extN_succ ags hd m hltm
            have hsz := HC.out.2.2.1 ags[m] (List.getElem_mem hltm)
            have hrn : RepN wr (fun b => b < w1.heap.size) hd Ah chd := RepN.mono (fun b h => h.2.1) (fun p hp => HBQ.out.cell hp.2.1) HRN.out
            have hct := containsN hd Ah chd ags[m] wr hrn
            have hcn := cloneN hd Ah chd wr hrn (by omega)
            obtain ⟨a, ha⟩ : ∃ a, a = ags[m] := ⟨_, rfl⟩
            rw [← ha] at hck hes hct hsz
            have HCT := Lib.hid hct; have HES := Lib.hid hes; have HCN := Lib.hid hcn
            clear ha hcl hct hes hcn hwq hrn hsz
            cases hq : hasS hd a with
            | true =>
              rw [hq] at HCT HES
              have HNX : Hid (extN ags hd (m + 1) = extN ags hd m) := by show _ = _; rw [HES.out, if_pos rfl, List.append_nil]
              clear HES hq HCN
              go_wp2_with fail
              refine HCT.out.mono ?_
              rintro e w2 ⟨rfl, rfl⟩
              go_wp2_with fail
              go_roundw
              case rel => exact ⟨m + 1, itm, by omega, by go_num, HRW.out, by show _ = _; rw [HNX.out]; exact HIT.out, by omega, HBQ.out⟩
              case measure => simp [intOf]; omega
            | false =>
              rw [hq] at HCT HES
              have HNX : Hid (extN ags hd (m + 1) = extN ags hd m ++ [hd ++ [a]]) := by show _ = _; rw [HES.out, if_neg (by simp)]
              clear HES hq
              go_wp2_with fail
              refine HCT.out.mono ?_
              rintro e wz ⟨rfl, hw⟩
              subst hw
              go_wp2_with fail
              refine HCN.out.mono ?_
              rintro e w2 ⟨v2, rfl, ho2, hb2⟩
              obtain ⟨g3, c3, w3, hap3, ho3, hg3⟩ := row_add slStr ho2 hb2.size [.string a] rfl (strs_one [a]) (by omega)
              have hb23 : Below wz.heap.size wz w3 := hb2.trans hg3.below
              have hr3 := HRW.out.below hb23
              obtain ⟨A4, c4, hv4, hrep4⟩ := repV_own ho3
              injection hv4 with hv41 _ hv43
              subst hv41 hv43
              obtain ⟨g5, c5, w5, hap5, hr5, hg5⟩ := srow_add slStrs hr3 (by have := HBQ.out.size; have := hb23.size; omega) (strs (hd ++ [a]), some ⟨g3, 0, none⟩, hd.length + 1, c3)
                (by
                  have := hrep4 (fun b => w1.heap.size ≤ b ∧ b < w3.heap.size ∧ (u5 : Value).ownBlock ≠ some b) (fun b h1 h2 _ => ⟨by have := HBQ.out.size; omega, h2, fun e => by have := (HRW.out.lt b e).2; omega⟩)
                  rw [show strs (hd ++ [a]) = strs hd ++ [.string a] by simp [strs]]
                  exact this) (by omega)
              have HR5 := Lib.hid hr5
              have HB5 := Lib.hid (HBQ.out.trans ((hb23.mono HBQ.out.size).trans hg5.below))
              have HI5 : Hid ((itm ++ [((strs (hd ++ [a]), some ⟨g3, 0, none⟩, hd.length + 1, c3) : Iv)]).map (·.1) = (tupsN ags n k ++ extN ags hd (m + 1)).map strs) := by
                show _ = _
                rw [List.map_append, HIT.out, HNX.out, ← List.append_assoc (tupsN ags n k), List.map_append (f := strs) (l₂ := [hd ++ [a]])]; rfl
              have hl5 : (itm ++ [((strs (hd ++ [a]), some ⟨g3, 0, none⟩, hd.length + 1, c3) : Iv)]).length = itm.length + 1 := by simp
              have HL5 := Lib.hid hl5
              generalize itm ++ [((strs (hd ++ [a]), some ⟨g3, 0, none⟩, hd.length + 1, c3) : Iv)] = it5 at *
              simp only [ivVal] at hap5
              clear hb23 hr3 hrep4 ho3 hg3 ho2 hb2 hr5 hg5 HRW HIT HBQ HCN HNX hl5
              go_wp2_with (at_builtin; first | refine wpList_run_append rfl _ _ rfl rfl rfl hap3 ?_ | refine wpList_run_append rfl _ _ rfl rfl rfl hap5 ?_)
              clear hap3 hap5
              go_roundw
              case rel => exact ⟨m + 1, it5, by omega, by go_num, HR5.out, HI5.out, by have := HL5.out; omega, HB5.out⟩
              case measure => simp [intOf]; omega
          · obtain rfl : m = ags.length := by omega
            have HI : Hid (itm.map (·.1) = (tupsN ags n (k + 1)).map strs) := by show _ = _; rw [HTS.out]; exact HIT.out
            clear HIT
            go_wp2_with fail
            go_roundw
            case rel => exact ⟨k + 1, itm, by omega, by go_num, HRW.out, HI.out, HBQ.out⟩
            case measure => simp [intOf]; omega
      · obtain rfl : k = its1.length := by omega
        have HI : Hid (its.map (·.1) = (tups ags (n + 1)).map strs) := by show _ = _; rw [HITS.out, HN1.out, tupsN_all]
        clear HITS
        go_wp2_with fail
        go_ret
        exact ⟨_, its, rfl, HROW.out.loosen HB1.out.size, HI.out, HB1.out.trans (HB.out.mono HB1.out.size)⟩
end Go.Proofs.YtpjmdilpldaapaaDoor
