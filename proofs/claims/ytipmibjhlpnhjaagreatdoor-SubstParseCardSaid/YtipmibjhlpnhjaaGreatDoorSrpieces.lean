/- The reference's pieces. -/
import Derived.Test.YtipmibjhlpnhjaaGreatDoorSrsides
namespace Go.Proofs.YtipmibjhlpnhjaaGreatDoor
open Go.RowKit Go.Sort

/-- the depth behind a byte -/
def sdepth (d : Int) (c : Int) : Int := if c = 40 then d + 1 else if c = 41 then d - 1 else d
/-- whether a comma with a space stands at a place -/
def comma (l : List UInt8) (i : Nat) : Bool := (l.drop i).take 2 == [44, 32]
structure PS where
  d : Int
  b : Nat
  out : List (List UInt8)
def pstep (l : List UInt8) (i : Nat) (st : PS) : PS :=
  match l[i]? with
  | none => st
  | some c => if sdepth st.d c.toNat = 0 ∧ comma l i = true then ⟨sdepth st.d c.toNat, i + 2, st.out ++ [(l.take i).drop st.b]⟩ else ⟨sdepth st.d c.toNat, st.b, st.out⟩
def pstate (l : List UInt8) : Nat → PS
  | 0 => ⟨0, 0, []⟩
  | i + 1 => pstep l i (pstate l i)
def piecesE (l : List UInt8) : List (List UInt8) := (pstate l l.length).out ++ [l.drop (pstate l l.length).b]
theorem comma_len {l : List UInt8} {i : Nat} (h : comma l i = true) : i + 1 < l.length ∧ l[i]? = some 44 ∧ l[i + 1]? = some 32 := by
  unfold comma at h
  rw [beq_iff_eq] at h
  have h0 := congrArg (·[0]?) h
  have h1 := congrArg (·[1]?) h
  simp only [List.getElem?_take, List.getElem?_drop] at h0 h1
  simp at h0 h1
  refine ⟨?_, h0, h1⟩
  exact (List.getElem?_eq_some_iff.1 h1).1
/-- what holds of the state -/
theorem pstate_inv (l : List UInt8) : ∀ i, i ≤ l.length → (pstate l i).d ≤ i ∧ -(i : Int) ≤ (pstate l i).d ∧ (pstate l i).b ≤ l.length ∧ (pstate l i).b ≤ i + 1 ∧ ((pstate l i).b = i + 1 → l[i]? = some 32) ∧ (pstate l i).out.length ≤ i := by
  intro i
  induction i with
  | zero => intro _; simp [pstate]
  | succ i ih =>
    intro hi
    obtain ⟨h1, h2, h3, h4, h5, h6⟩ := ih (by omega)
    have hpd : ∀ c : Int, sdepth (pstate l i).d c ≤ (i : Int) + 1 ∧ -((i : Int) + 1) ≤ sdepth (pstate l i).d c := fun c => by
      unfold sdepth; split
      · omega
      · split <;> omega
    rw [pstate]
    unfold pstep
    rw [List.getElem?_eq_getElem (by omega)]
    dsimp only
    obtain ⟨p1, p2⟩ := hpd (l[i].toNat : Int)
    split
    · rename_i h
      obtain ⟨c1, c2, c3⟩ := comma_len h.2
      refine ⟨by push_cast; exact p1, by push_cast; omega, by show i + 2 ≤ _; omega, by show i + 2 ≤ _; omega, fun _ => c3, ?_⟩
      show (_ ++ [_]).length ≤ _
      rw [List.length_append]; simp; omega
    · rename_i h
      refine ⟨by push_cast; exact p1, by push_cast; omega, h3, by show _ ≤ _; exact Nat.le_trans h4 (by omega), ?_, by show (pstate l i).out.length ≤ _; omega⟩
      intro e
      exfalso
      have : (pstate l i).b = i + 1 + 1 := e
      omega
end Go.Proofs.YtipmibjhlpnhjaaGreatDoor
