/- Lists of terms that two calls answer, compared. -/
import Derived.Test.YtpjmdilpldaapaaDoorClaw0
import Derived.Test.YtpjmdilpldaapaaDoorChas
namespace Go.Proofs.YtpjmdilpldaapaaDoor
open Go.RowKit Go.Sort

def SmallL (l : List Tm) : Prop := (∀ t ∈ l, t.size ≤ 3) ∧ l.length ≤ 100
theorem SmallL.nil : SmallL [] := ⟨by simp, by simp⟩
theorem initC_smallL {ags bad sm : List ByteArray} (h : Good ags bad) : SmallL (initC ags sm) := by
  refine ⟨initC_small _ _, ?_⟩
  have h1 := Tm.set_length (keysK ags sm ags ++ pubsK ags)
  have h2 := keys_len (sm := sm) h
  have h3 := h.six
  unfold initC
  rw [List.length_append, pubsK, List.length_map] at h1
  unfold pubsK
  omega
theorem initE_small (ags bad : List ByteArray) : SmallL (initE ags bad) := by
  unfold initE
  by_cases h : castE ags bad = 0
  · rw [if_pos h]; exact initC_smallL (good_of h)
  · rw [if_neg h]; exact SmallL.nil
theorem ownL_small (ags bad : List ByteArray) (x : ByteArray) : SmallL (ownL ags bad x) := by
  unfold ownL
  by_cases h : castE ags bad = 0 ∧ hasS ags x = true
  · rw [if_pos h]; exact initC_smallL (good_of h.1)
  · rw [if_neg h]; exact SmallL.nil
theorem keysE_small (ags bad : List ByteArray) : SmallL (keysE ags bad) := by
  unfold keysE
  by_cases h : castE ags bad = 0
  · rw [if_pos h]
    refine ⟨fun t ht => keysK_small _ _ _ t ((Tm.mem_set _ t).1 ht), ?_⟩
    have h1 := Tm.set_length (keysK ags ags ags)
    have h2 := keys_len (sm := ags) (good_of h)
    unfold keysC
    omega
  · rw [if_neg h]; exact SmallL.nil
theorem lists_same (l : List Tm) (A A' : Option Addr) (cap cap' : Nat) (w : World) (hs : SmallL l) (hrep : RepS w (fun b => b < w.heap.size) l A cap) (hrep' : RepS w (fun b => b < w.heap.size) l A' cap') :
    Calls Tryd.prog 29 #[.slice A l.length cap, .slice A' l.length cap'] w fun e w' => e = .returned (.bool true) ∧ Below w.heap.size w w' := by
  refine (lists_any l l A A' cap cap' w (fun t ht => by have := hs.1 t ht; omega) (fun t ht => by have := hs.1 t ht; omega) (by have := hs.2; omega) (by have := hs.2; omega) hrep hrep').mono ?_
  rintro e w' ⟨rfl, hl⟩
  rw [Tm.sames_iff.2 rfl]
  exact ⟨rfl, hl.below⟩
section
variable {ags bad : List ByteArray} {Aa Ab : Option Addr} {ca cb : Nat} {w : World}
theorem cinitS {E : Int} {L : List Tm} (hE : E = castE ags bad) (hL : L = initE ags bad) (hc : CastW w ags bad Aa ca Ab cb) :
    Calls Tryd.prog 27 #[castV ags bad Aa ca Ab cb] w (TermsS w E L) := by
  subst hE hL; exact (cinit_any ags bad Aa Ab ca cb w hc).mono fun _ _ h => h.toS
theorem rinitS {E : Int} {L : List Tm} (hE : E = castE ags bad) (hL : L = initE ags bad) (hc : CastW w ags bad Aa ca Ab cb) :
    Calls Tryd.prog 28 #[castV ags bad Aa ca Ab cb] w (TermsS w E L) := by
  subst hE hL; exact rinit_any ags bad Aa Ab ca cb w hc
theorem ckeysS {L : List Tm} (hL : L = keysE ags bad) (hc : CastW w ags bad Aa ca Ab cb) :
    Calls Tryd.prog 30 #[castV ags bad Aa ca Ab cb] w (ListS w L) := by
  subst hL; exact (ckeys_any ags bad Aa Ab ca cb w hc).mono fun _ _ h => h.toS (Nat.le_refl _)
theorem rckeysS {L : List Tm} (hL : L = keysE ags bad) (hc : CastW w ags bad Aa ca Ab cb) :
    Calls Tryd.prog 31 #[castV ags bad Aa ca Ab cb] w (ListS w L) := by
  subst hL; exact rckeys_any ags bad Aa Ab ca cb w hc
theorem cownS {E : Int} {L : List Tm} {x : ByteArray} (hE : E = ownEr ags bad x) (hL : L = ownL ags bad x) (hc : CastW w ags bad Aa ca Ab cb) (hx : x.size ≤ maxLen) :
    Calls Tryd.prog 32 #[castV ags bad Aa ca Ab cb, .string x] w (TermsS w E L) := by
  subst hE hL; exact (cown_any ags bad Aa Ab ca cb x w hc hx).mono fun _ _ h => h.toS
theorem rownS {E : Int} {L : List Tm} {x : ByteArray} (hE : E = ownEr ags bad x) (hL : L = ownL ags bad x) (hc : CastW w ags bad Aa ca Ab cb) (hx : x.size ≤ maxLen) :
    Calls Tryd.prog 33 #[castV ags bad Aa ca Ab cb, .string x] w (TermsS w E L) := by
  subst hE hL; exact rown_any ags bad Aa Ab ca cb x w hc hx
end
theorem own_one {ags bad : List ByteArray} {x : ByteArray} (h : ownEr ags bad x = 0) : 0 = castE ags [x] ∧ ownL ags bad x = initE ags [x] := by
  unfold ownEr at h
  by_cases h0 : castE ags bad = 0
  · rw [if_pos h0] at h
    by_cases hx : hasS ags x = true
    · have h1 := one_valid h0 x ((hasS_iff _ _).1 hx)
      unfold ownL initE
      rw [if_pos ⟨h0, hx⟩, if_pos h1]
      exact ⟨h1.symm, rfl⟩
    · rw [if_neg hx] at h; omega
  · rw [if_neg h0] at h; exact absurd h h0
/-- .. where the terms are small -/
theorem has_small {l : List Tm} {A0 : Option Addr} {cap0 : Nat} {x : Tm} {A : Option Addr} {c : Nat} {w : World} (hs : SmallL l) (hx : x.size ≤ 100) (hrep : RepS w (fun b => b < w.heap.size) l A0 cap0) (hrx : RepT w w.heap.size x A c) :
    Calls Tryd.prog 22 #[.slice A0 l.length cap0, x.val A c] w fun e w' => e = .returned (.bool (decide (x ∈ l))) ∧ Below w.heap.size w w' := by
  refine (rhas_any l A0 cap0 x A c w (fun t ht => by have := hs.1 t ht; omega) (by omega) hrep hrx).mono ?_
  rintro e w' ⟨rfl, hl⟩
  rw [hasT_iff]
  exact ⟨rfl, hl.below⟩
theorem RepS.fwd {w w' : World} {l : List Tm} {A : Option Addr} {cap : Nat} (h : RepS w (fun b => b < w.heap.size) l A cap) (hb : Below w.heap.size w w') : RepS w' (fun b => b < w'.heap.size) l A cap :=
  (h.below hb).up hb.size
theorem RepN.fwd {w w' : World} {l : List ByteArray} {A : Option Addr} {cap : Nat} (h : RepN w (fun b => b < w.heap.size) l A cap) (hb : Below w.heap.size w w') : RepN w' (fun b => b < w'.heap.size) l A cap :=
  h.go hb hb.size
end Go.Proofs.YtpjmdilpldaapaaDoor
