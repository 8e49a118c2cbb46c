/- UlistsLaw (joined by shake.py). -/
import Derived.Test.YtmajbopjaejliaaGreatDoorQ21
import Derived.Test.YtmajbopjaejliaaGreatDoorQ23
namespace Go.Proofs.YtmajbopjaejliaaGreatDoor
open Go.RowKit Go.Sort
set_option maxHeartbeats 4000000 in
set_option maxRecDepth 100000 in
theorem ulists_law (l m : List Tm) (L0 M0 : Option Addr) (lc mc : Nat) (w : World) (hrl : RepS w (fun b => b < w.heap.size) l L0 lc) (hrm : RepS w (fun b => b < w.heap.size) m M0 mc) :
    Calls Tryz.prog 5 #[.slice L0 l.length lc, .slice M0 m.length mc] w fun e w' => e = .returned (.bool true) ∧ Below w.heap.size w w' := by
  have HF := Lib.hid (show Facts w [.terms m M0 mc, .terms l L0 lc] w from ⟨hrm, hrl, Below.refl _ _⟩)
  clear hrl hrm
  go_enter Tryz.func5, Tryz.ntmps5
  go_wp2_with fail
  refine (uawake_any w w (Below.refl _ _) (itoa_small w)).mono ?_
  rintro e w1 ⟨rfl, hb1⟩
  have HF1 := Lib.hid (Facts.below hb1 HF.out)
  clear HF hb1
  have FL := Lib.hid (few_any l L0 lc 210 450 w1 (by decide) (by decide) HF1.out.2.1)
  go_wp2_with fail
  refine FL.out.mono ?_; clear FL
  rintro e w2 ⟨rfl, hl2⟩
  have HF2 := Lib.hid (Facts.below hl2.below HF1.out)
  clear HF1 hl2
  by_cases h1 : (l.length : Int) ≤ 210 ∧ 0 ≤ Tm.lefts l 450
  rotate_left
  · rw [decide_eq_false h1]
    go_wp2_with fail
    refine (uawake_any w w2 (Facts.bel HF2.out) (itoa_small w)).mono ?_
    rintro e w3 ⟨rfl, hb3⟩
    go_wp2_with fail
    go_ret
    exact ⟨rfl, Facts.bel (Facts.below hb3 HF2.out)⟩
  rw [decide_eq_true h1]
  have FM := Lib.hid (few_any m M0 mc 210 450 w2 (by decide) (by decide) HF2.out.1)
  have H1 := Lib.hid h1
  clear h1
  go_wp2_with fail
  refine FM.out.mono ?_; clear FM
  rintro e w3 ⟨rfl, hl3⟩
  have HF3 := Lib.hid (Facts.below hl3.below HF2.out)
  clear HF2 hl3
  by_cases h2 : (m.length : Int) ≤ 210 ∧ 0 ≤ Tm.lefts m 450
  rotate_left
  · rw [decide_eq_false h2]
    clear H1
    go_wp2_with fail
    refine (uawake_any w w3 (Facts.bel HF3.out) (itoa_small w)).mono ?_
    rintro e w4 ⟨rfl, hb4⟩
    go_wp2_with fail
    go_ret
    exact ⟨rfl, Facts.bel (Facts.below hb4 HF3.out)⟩
  rw [decide_eq_true h2]
  have s1 := Tm.lefts_size l 450 (by decide) H1.out.2
  have s2 := Tm.lefts_size m 450 (by decide) h2.2
  have z1 := H1.out.1
  have z2 := h2.1
  have z3 := H1.out.2
  have z4 := h2.2
  obtain ⟨r, hr⟩ := lists_ans l m (by omega) (by omega)
  have hsz := lists_size hr
  have hz : ∀ t ∈ l ++ m, t.size ≤ 1000000 := fun t ht => by
    rcases List.mem_append.1 ht with h | h
    · have := Tm.lefts_each (by decide) H1.out.2 t h; omega
    · have := Tm.lefts_each (by decide) h2.2 t h; omega
  have L1 : Hid (∀ Z, Facts w [.terms m M0 mc, .terms l L0 lc] Z → Calls Tryz.prog 19 #[.slice L0 l.length lc, .slice M0 m.length mc] Z (SolvedU r Z)) := Lib.hid fun Z h => lists_any l m L0 M0 lc mc r Z hz (by omega) (by omega) hr h.2.1 h.1
  have L2 : Hid (∀ Z, Facts w [.terms m M0 mc, .terms l L0 lc] Z → Calls Tryz.prog 20 #[.slice L0 l.length lc, .slice M0 m.length mc] Z (SolvedU r Z)) := Lib.hid fun Z h => rlists_any l m L0 M0 lc mc r Z hz (by omega) (by omega) hr h.2.1 h.1
  clear s1 s2 z1 z2 z3 z4 h2 H1 hz hr
  unfold SolvedU at L1 L2
  obtain ⟨bs, hbs⟩ : ∃ bs, bs = (solvedU r).1 := ⟨_, rfl⟩
  obtain ⟨en, hen⟩ : ∃ en, en = r.1 := ⟨_, rfl⟩
  rw [← hbs] at L1 L2 hsz
  rw [← hen] at L1 L2
  clear hbs hen
  have HSZ := Lib.hid hsz; clear hsz
  have C1 := Lib.hid (L1.out w3 HF3.out)
  clear L1
  go_wp2_with fail
  refine C1.out.mono ?_; clear C1
  rintro e w4 ⟨A4, c4, rfl, hr4, hb4⟩
  have HF4 := Lib.hid (Facts.below hb4 HF3.out)
  have HR4 := Lib.hid hr4
  clear HF3 hr4 hb4
  have C2 := Lib.hid (L2.out w4 HF4.out)
  clear L2
  go_wp2_with fail
  refine C2.out.mono ?_; clear C2
  rintro e w5 ⟨A5, c5, rfl, hr5, hb5⟩
  have HF5 := Lib.hid (Facts.below hb5 HF4.out)
  have HR45 := Lib.hid (HR4.out.go hb5 hb5.size)
  have SB := rsameB3_any bs bs A4 A5 c4 c5 w5 HSZ.out HSZ.out HR45.out hr5
  rw [decide_eq_true (rfl : bs = bs)] at SB
  have SB := Lib.hid SB
  clear HF4 HR4 HR45 hr5 hb5
  have hq : (en == en) = true := beq_self_eq_true en
  go_wp2_with fail
  refine SB.out.mono ?_; clear SB
  rintro e w6 ⟨rfl, hl6⟩
  go_wp2_with fail
  go_ret
  exact ⟨rfl, Facts.bel (Facts.below hl6.below HF5.out)⟩
end Go.Proofs.YtmajbopjaejliaaGreatDoor
