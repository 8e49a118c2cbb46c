/- From a walk to what a row asks: true, and every argument reads as it did. -/
import Derived.Test.YtbgkabgbgbebaaaDoorLaid
import Derived.WideKeyArgs
import Derived.ChangeSame
import Derived.RowKit
import Derived.ProofKit
import Derived.OpenShut
import Derived.Deep.DeepHandedRow
import Derived.Deep.DeepWitnessRowRef
namespace Go.Proofs.YtbgkabgbgbebaaaDoor
open Go.ChangeShapes Go.WideShapes Go.RowKit

theorem own : ownKnob Tryd.prog.godebug = none := by kernel_rfl
theorem laidOut : laidOutB Tryd.prog = true := by kernel_rfl

section
variable {H : Type} {enc : TypeId × Value → H}
/-- Every argument reads as it did, where nothing old has turned. -/
theorem trodAll_below {W W' : World} (hb : Below W.heap.size W W') {sp : Nat → Bool} : ∀ {ts : List TypeId} {vs : List Value} {ds : List (DataW H)} {ps : List MemPlace},
    (∀ t ∈ ts, Tryd.prog.readableRec t = true ∧ t < Tryd.prog.types.size) → (∀ p ∈ ps, p.block < W.heap.size ∧ sp p.block = true) →
    DataW.TrodAll enc Tryd.prog W 0 (fun _ => true) true ts vs ds ps → DataW.TrodAll enc Tryd.prog W' 0 sp true ts vs ds ps
  | [], vs, ds, ps, _, _, h => by
    obtain ⟨rfl, rfl, rfl⟩ := trodAll_nil h
    rfl
  | t :: ts, vs, ds, ps, ht, hp, h => by
    obtain ⟨v, vs, d, ds, p, q, rfl, rfl, rfl, h0, h1⟩ := trodAll_cons h
    refine ⟨p, q, ?_, trodAll_below hb (fun t h => ht t (List.mem_cons_of_mem _ h)) (fun x hx => hp x (List.mem_append_right _ hx)) h1, rfl⟩
    obtain ⟨h2, h3⟩ := ht t (List.mem_cons_self ..)
    exact WideElems.Trod_stays laidOut h2 h3 h0 (fun x hx => hb.same (hp x (List.mem_append_left _ hx)).1) (fun x hx => (hp x (List.mem_append_left _ hx)).2)

set_option maxRecDepth 100000 in
theorem law_post {fn : Func} {s : ChangeSpec} {W W' : World} {args : Array Value} {ds gs : List (DataW H)} {before : List MemPlace}
    (hW : DataW.Whole enc Tryd.prog fn.params.toList s.vars false W args.toList ds gs before) (hvars : s.vars = []) (hres : fn.resultTypes = #[4])
    (hfn : s.fn H ds = { results := [.lit (.bool true)], args := ds, vars := [] })
    (hrec : ∀ t ∈ fn.params.toList, Tryd.prog.readableRec t = true ∧ t < Tryd.prog.types.size) (hb : Below W.heap.size W W') :
    s.post enc Tryd.prog fn false true false false W args (.bool true) W' := by
  have hW' := hW
  obtain ⟨p, q, hA, hV, hpq, hfz, -⟩ := hW
  rw [hvars] at hV
  obtain ⟨rfl, rfl⟩ := trodVars_none hV
  rw [List.append_nil] at hpq
  subst hpq
  have hlt : ∀ x ∈ before, x.block < W.heap.size := fun x hx => hW'.lt x hx
  have hargs : ∀ sp : Nat → Bool, (∀ x ∈ before, sp x.block = true) → DataW.TrodAll enc Tryd.prog W' 0 sp true fn.params.toList args.toList ds before :=
    fun sp hsp => trodAll_below hb hrec (fun x hx => ⟨hlt x hx, hsp x hx⟩) hA
  have hr : ∀ (b : Nat) (sp : Nat → Bool) (hd : Bool), DataW.TrodAll enc Tryd.prog W' b sp hd fn.resultTypes.toList ((Value.bool true).resultList fn.resultTypes.size) [.lit (.bool true)] [] := fun b sp hd => by
    rw [hres]
    exact trodAll_cons_mk (shut_bool Tryd.underlying4 _) trodAll_mk0
  have hv : ∀ sp : Nat → Bool, DataW.TrodVars enc Tryd.prog W' sp s.vars [] [] := fun sp => by rw [hvars]; rfl
  rw [show ds = ds ++ [] from (List.append_nil _).symm] at hfn
  have hold : ∀ x ∈ before, (fun b => decide (b < W.heap.size)) x.block = true := fun x hx => by simpa using hlt x hx
  have e1 : (s.fn H (ds ++ [])).results = [.lit (.bool true)] := by rw [hfn]
  have e2 : (s.fn H (ds ++ [])).args = ds := by rw [hfn]; simp
  have e3 : (s.fn H (ds ++ [])).vars = [] := by rw [hfn]
  refine ⟨ds, [], before, [], before, [], hW', by rw [e1]; exact hr _ _ _, by rw [e2]; exact hargs _ hold, by rw [e3]; exact hv _, hb.frame _, fun _ => ⟨?_, ?_⟩⟩
  · rw [hres]
    intro j t r h1 h2
    match j with
    | 0 =>
      simp [Value.resultList] at h1 h2
      subst h1 h2
      exact okWide_bool_mk Tryd.underlying4 _
    | j + 1 => simp at h1
  · refine ⟨_, _, ([] ++ before) ++ [], ⟨[] ++ before, [], trodAll_append (hargs _ (fun _ _ => rfl)) (hr _ _ _), hv _, rfl, ?_, fun h => by cases h⟩, ?_⟩
    · intro b off hp
      have hp' : MemPlace.cell b off ∈ before := by simpa using hp
      rw [hb.frozen (hlt _ hp')]
      exact hfz b off (by simpa using hp')
    · intro x hx _
      simpa using hx
end
end Go.Proofs.YtbgkabgbgbebaaaDoor
