/- Ulaw0 (joined by shake.py). -/
import Derived.Test.YtmajbopjaejliaaGreatDoorQ12
import Derived.Test.YtmajbopjaejliaaGreatDoorQ20
namespace Go.Proofs.YtmajbopjaejliaaGreatDoor
open Go.RowKit Go.Sort
/-- an operation that is not wanted -/
theorem mix4_off {P : Program} {ops : Array Oper} {Q : Exit → Act → World → Prop} {S S2 : World → Prop} {wk : List Nat} {i : Nat} {r : Mx3} {a : Act} {w : World} {o : Oper} (ho : ops[i]? = some o) (hg : Region.wanted o (yielded ops a.tmps) = false) (_hw : wk.contains i = false) (hQ : ∀ c a' w', Q (.panic c) (a'.put o.dst undef) w' → Q (.panic c) a' w')
    (hS : S w) (hS2 : S2 w) (h : wpMix4 P ops Q S S2 wk r (a.put o.dst undef) w) : wpMix4 P ops Q S S2 wk (.held i r) a w :=
  ⟨⟨fun _ => hS, hS2⟩, o, undef, ho, Or.inr ⟨hg, rfl⟩, hQ, h⟩
/-- what the answer of Unify gives -/
theorem unify_fin {t u : Tm} {r : Int × List Bd} (h1 : valid2 t u ≠ 0 → r = (valid2 t u, [])) (h2 : valid2 t u = 0 → ∃ n, runU n [(t, u)] [] = some r) (h0 : r.1 = 0) : t.rap (solvedU r).1 = u.rap (solvedU r).1 ∧ (t.rap (solvedU r).1).size ≤ 1000000 := by
  have hv : valid2 t u = 0 := Classical.byContradiction fun hn => by
    rw [h1 hn] at h0; exact hn h0
  refine ⟨unify_equal h1 h2 h0, ?_⟩
  obtain ⟨n, hr⟩ := h2 hv
  obtain ⟨v1, v2⟩ := valid2_zero hv
  have hb := solved_binds hr
  rw [rap_put (fun b hb' => (hb b hb').2.1) t (valid_iff.1 v1).1]
  have h3 := put_size (s := (solvedU r).1) (m := 400) (fun b hb' => valid_size (hb b hb').2.2) (by omega) t
  have h4 := valid_size v1
  omega
theorem rapplyF (s : List Bd) (t : Tm) (S0 A : Option Addr) (sc c : Nat) (w : World) (hs : SizeB s) (ht : t.size ≤ 1000000) (hrs : RepB w (fun b => b < w.heap.size) s S0 sc) (hrt : RepT w w.heap.size t A c) :
    Calls Tryz.prog 16 #[.slice S0 s.length sc, t.val A c] w fun e w' => ∃ A' c', e = .returned ((t.rap s).val A' c') ∧ RepT w' w'.heap.size (t.rap s) A' c' ∧ Below w.heap.size w w' :=
  (rapply3_any w.heap.size s S0 sc hs t.size t A c w (Nat.le_refl _) ht (Nat.le_refl _) hrs hrt).mono fun _ w' ⟨A', c', e, hr, hb⟩ =>
    ⟨A', c', e, RepP.mono (fun b h => by have := hb.size; show b < w'.heap.size; omega) (fun _ _ => rfl) _ _ _ hr, hb⟩
end Go.Proofs.YtmajbopjaejliaaGreatDoor
