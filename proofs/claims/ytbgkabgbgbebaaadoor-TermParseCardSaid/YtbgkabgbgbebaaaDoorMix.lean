/- A region that draws its order, walked along a tree of orders that the prover names: pure operations, and loads whose value is known in every world that meets S, are taken first; the others one at a time, or two that may come in either order. S is asked behind the operations of the head alone (those below n, for which all the others wait). -/
import Derived.StillTail
import Derived.OrdersHeld
import Derived.WalkKit
namespace Go.Proofs.YtbgkabgbgbebaaaDoor
section
variable {P : Program} {ops : Array Oper} {Q : Exit → Act → World → Prop} {md : Region.Mode} {S : World → Prop} {n : Nat}

/-- Every operation from n on waits for every operation below n. -/
def barB (md : Region.Mode) (ops : Array Oper) (n : Nat) : Bool :=
  (List.range ops.size).all fun t => decide (t < n) || (List.range n).all fun i => Region.waitsFor md ops t i
theorem bar_waits {i : Nat} {listed : Array Bool} (hb : barB md ops n = true) (hi : i < n) (hun : listed.getD i true = false) : ∀ t ∈ Region.ready md ops listed, t < n := by
  intro t ht
  obtain ⟨_, ot, hot, hall⟩ := mem_ready.1 ht
  have htl : t < ops.size := (Array.getElem?_eq_some_iff.1 hot).1
  have h1 := List.all_eq_true.1 hb t (List.mem_range.2 htl)
  simp only [Bool.or_eq_true, decide_eq_true_eq] at h1
  rcases h1 with h1 | h1
  · exact h1
  · obtain ⟨o', ho', e, he, hbi, hon⟩ := Region.waitsFor_spec (List.all_eq_true.1 h1 i (List.mem_range.2 hi))
    have : o' = ot := Option.some.inj (ho'.symm.trans hot)
    subst this
    have h2 := hall e he hbi
    rw [hon, getD_both hun] at h2
    cases h2

/-- Whatever order is picked from here on; S holds behind every operation of the head that is carried out. -/
def wpAnyT (P : Program) (md : Region.Mode) (ops : Array Oper) (Q : Exit → Act → World → Prop) (S : World → Prop) (n : Nat) : Nat → Array Bool → Act → World → Prop
  | 0, listed, a, w => Region.ready md ops listed = [] ∧ Q .normal a w
  | fuel + 1, listed, a, w =>
    (Region.ready md ops listed = [] → Q .normal a w) ∧
    ∀ i ∈ Region.ready md ops listed, wpOp P ops Q i (fun a' w' => (i < n → S w') ∧ wpAnyT P md ops Q S n fuel (listed.setIfInBounds i true) a' w') a w
theorem wpAny_of_T : ∀ (fuel : Nat) (listed : Array Bool) (a : Act) (w : World), wpAnyT P md ops Q S n fuel listed a w → wpAny P md ops Q fuel listed a w
  | 0, _, _, _, h => h
  | fuel + 1, _, _, _, h => ⟨h.1, fun i hi => wpOp_mono (fun a' w' h' => wpAny_of_T fuel _ a' w' h'.2) (h.2 i hi)⟩

theorem wpAnyT_first {S' : World → Prop} {i : Nat} {oi : Oper} {v : Value} (hi : ops[i]? = some oi) (hsel : ∀ (j : Nat) (o : Oper) cs b, ops[j]? = some o → o.op ≠ .select cs b)
    (hS' : ∀ (listed : Array Bool) (j : Nat) (w : World), listed.getD i true = false → j ∈ Region.ready md ops listed → (j < n → S w) → S' w) (hSS : ∀ w, S' w → i < n → S w)
    (hQ : ∀ c a w, Q (.panic c) (a.put oi.dst v) w → Q (.panic c) a w) :
    ∀ (fuel : Nat) (listed : Array Bool) (a : Act) (w : World),
      (∀ j oj, ops[j]? = some oj → j ≠ i → listed.getD j true = false → (∀ e ∈ oj.after, Region.binds md e = true → e.on ≠ i) → oi.apart ops oj = true) →
      i ∈ Region.ready md ops listed → YieldsIf P ops S' oi v a → S' w →
      wpAnyT P md ops Q S n fuel (listed.setIfInBounds i true) (a.put oi.dst v) w → wpAnyT P md ops Q S n (fuel + 1) listed a w := by
  intro fuel
  induction fuel with
  | zero =>
    intro listed a w _ hr hy hS H
    refine ⟨fun h => (by rw [h] at hr; cases hr), fun j hj => ?_⟩
    by_cases hji : j = i
    · subst hji; exact hy.wpOp hi hS ⟨fun h => hSS w hS h, H⟩
    · have := ready_mono hj hji
      rw [H.1] at this
      cases this
  | succ fuel ih =>
    intro listed a w hfree hr hy hS H
    have hun := (mem_ready.1 hr).1
    refine ⟨fun h => (by rw [h] at hr; cases hr), fun j hj => ?_⟩
    by_cases hji : j = i
    · subst hji; exact hy.wpOp hi hS ⟨fun h => hSS w hS h, H⟩
    · have h1 := H.2 j (ready_mono hj hji)
      obtain ⟨hjun, oj, hoj, hall⟩ := mem_ready.1 hj
      have hnot : ∀ e ∈ oj.after, Region.binds md e = true → e.on ≠ i := fun e he hb heq => by
        have h1 := hall e he hb
        rw [heq, getD_both hun] at h1
        cases h1
      have h2 := wpOp_putIf hoj (hfree j oj hoj hji hjun hnot) (fun cs b => hsel i oi cs b hi) (fun cs b => hsel j oj cs b hoj) hQ hy h1
      have hfree' : ∀ k ok, ops[k]? = some ok → k ≠ i → (listed.setIfInBounds j true).getD k true = false →
          (∀ e ∈ ok.after, Region.binds md e = true → e.on ≠ i) → oi.apart ops ok = true := fun k ok hk hki hu hno => by
        refine hfree k ok hk hki ?_ hno
        by_cases hjk : j = k
        · subst hjk; exact hjun
        · rw [getD_set_ne true hjk] at hu; exact hu
      refine wpOp_mono (fun a' w' h3 => ⟨h3.2.1, ih (listed.setIfInBounds j true) a' w' hfree' (ready_mono hr (Ne.symm hji)) h3.1 (hS' listed j w' hun hj h3.2.1) ?_⟩) h2
      rw [Array.setIfInBounds_comm _ _ hji]
      exact h3.2.2

/-- A tree of orders. -/
inductive Mx where
  | nil
  | held (i : Nat) (r : Mx)
  | pure (i : Nat) (r : Mx)
  | op (i : Nat) (r : Mx)
  | two (i j : Nat) (r r' : Mx)
def Mx.len : Mx → Nat
  | .nil => 0
  | .held _ r | .pure _ r | .op _ r => r.len + 1
  | .two _ _ r _ => r.len + 1
/-- The walk along the tree. -/
def wpMix (P : Program) (ops : Array Oper) (Q : Exit → Act → World → Prop) (S : World → Prop) (n : Nat) : Mx → Act → World → Prop
  | .nil, a, w => Q .normal a w
  | .held i r, a, w => S w ∧ ∃ o v, ops[i]? = some o ∧ YieldsIf P ops S o v a ∧ (∀ c a' w', Q (.panic c) (a'.put o.dst v) w' → Q (.panic c) a' w') ∧ wpMix P ops Q S n r (a.put o.dst v) w
  | .pure i r, a, w => (i < n → S w) ∧ ∃ o v, ops[i]? = some o ∧ YieldsIf P ops (fun _ => True) o v a ∧ (∀ c a' w', Q (.panic c) (a'.put o.dst v) w' → Q (.panic c) a' w') ∧ wpMix P ops Q S n r (a.put o.dst v) w
  | .op i r, a, w => wpOp P ops Q i (fun a' w' => (i < n → S w') ∧ wpMix P ops Q S n r a' w') a w
  | .two i j r r', a, w => wpOp P ops Q i (fun a' w' => (i < n → S w') ∧ wpMix P ops Q S n r a' w') a w ∧ wpOp P ops Q j (fun a' w' => (j < n → S w') ∧ wpMix P ops Q S n r' a' w') a w
/-- That the tree holds every order that the edges allow. -/
def mixB (md : Region.Mode) (ops : Array Oper) (n : Nat) : Mx → Array Bool → Bool
  | .nil, listed => (Region.ready md ops listed).isEmpty
  | .held i r, listed => decide (i < n) && (Region.ready md ops listed).contains i && Region.free md ops listed i && mixB md ops n r (listed.setIfInBounds i true)
  | .pure i r, listed => decide (n ≤ i) && (Region.ready md ops listed).contains i && Region.free md ops listed i && mixB md ops n r (listed.setIfInBounds i true)
  | .op i r, listed => decide (Region.ready md ops listed = [i]) && mixB md ops n r (listed.setIfInBounds i true)
  | .two i j r r', listed => decide (Region.ready md ops listed = [i, j]) && decide (r.len = r'.len) && mixB md ops n r (listed.setIfInBounds i true) && mixB md ops n r' (listed.setIfInBounds j true)
def mixOk (md : Region.Mode) (ops : Array Oper) (n : Nat) (order : Mx) : Bool :=
  Region.noSelect ops && barB md ops n && decide (order.len = ops.size) && mixB md ops n order (Array.replicate ops.size false)

theorem wpAnyT_of_mix (hsel : Region.noSelect ops = true) (hb : barB md ops n = true) :
    ∀ (order : Mx) (listed : Array Bool) (a : Act) (w : World), mixB md ops n order listed = true → wpMix P ops Q S n order a w → wpAnyT P md ops Q S n order.len listed a w
  | .nil, listed, a, w, hB, h => ⟨by simpa [mixB] using hB, h⟩
  | .held i r, listed, a, w, hB, h => by
    simp only [mixB, Bool.and_eq_true, decide_eq_true_eq] at hB
    obtain ⟨⟨⟨hin, hr⟩, hf⟩, hB2⟩ := hB
    obtain ⟨hS, o, v, ho, hy, hQ, hrest⟩ := h
    exact wpAnyT_first ho (Region.noSelect_spec hsel) (fun l j w hun hj hSw => hSw (bar_waits hb hin hun j hj)) (fun _ h _ => h) hQ r.len listed a w (Region.free_spec ho hf) (by simpa using hr) hy hS
      (wpAnyT_of_mix hsel hb r _ _ _ hB2 hrest)
  | .pure i r, listed, a, w, hB, h => by
    simp only [mixB, Bool.and_eq_true, decide_eq_true_eq] at hB
    obtain ⟨⟨⟨hin, hr⟩, hf⟩, hB2⟩ := hB
    obtain ⟨_, o, v, ho, hy, hQ, hrest⟩ := h
    exact wpAnyT_first (S' := fun _ => True) ho (Region.noSelect_spec hsel) (fun _ _ _ _ _ _ => trivial) (fun _ _ h => absurd h (by omega)) hQ r.len listed a w (Region.free_spec ho hf) (by simpa using hr) hy trivial
      (wpAnyT_of_mix hsel hb r _ _ _ hB2 hrest)
  | .op i r, listed, a, w, hB, h => by
    simp only [mixB, Bool.and_eq_true, decide_eq_true_eq] at hB
    refine ⟨fun h0 => (by rw [hB.1] at h0; cases h0), fun j hj => ?_⟩
    rw [hB.1] at hj
    obtain rfl : j = i := by simpa using hj
    exact wpOp_mono (fun a' w' h' => ⟨h'.1, wpAnyT_of_mix hsel hb r _ a' w' hB.2 h'.2⟩) h
  | .two i k r r', listed, a, w, hB, h => by
    simp only [mixB, Bool.and_eq_true, decide_eq_true_eq] at hB
    obtain ⟨⟨⟨hr, hlen⟩, hB1⟩, hB2⟩ := hB
    refine ⟨fun h0 => (by rw [hr] at h0; cases h0), fun j hj => ?_⟩
    rw [hr] at hj
    simp only [List.mem_cons, List.not_mem_nil, or_false] at hj
    rcases hj with rfl | rfl
    · exact wpOp_mono (fun a' w' h' => ⟨h'.1, wpAnyT_of_mix hsel hb r _ a' w' hB1 h'.2⟩) h.1
    · exact wpOp_mono (fun a' w' h' => ⟨h'.1, by rw [hlen]; exact wpAnyT_of_mix hsel hb r' _ a' w' hB2 h'.2⟩) h.2
/-- THE RULE. -/
theorem wp_region_mix {id : Nat} {Q : Exit → Act → World → Prop} {a : Act} {w : World} {l : List Oper} (S : World → Prop) (n : Nat) (order : Mx) (hm : P.follows .mixedOrders = true)
    (hB : mixOk .any l.toArray n order = true) (h : wpMix P l.toArray Q S n order a w.drew) : (Code.region id l.toArray true).wp P Q a w := by
  simp only [mixOk, Bool.and_eq_true, decide_eq_true_eq] at hB
  obtain ⟨⟨⟨hsel, hb⟩, hlen⟩, hB⟩ := hB
  refine wp_region_any hm ?_
  have := wpAny_of_T _ _ _ _ (wpAnyT_of_mix (md := .any) hsel hb order _ a w.drew hB h)
  rw [hlen] at this
  exact this
theorem mix_nil {a : Act} {w : World} (h : Q .normal a w) : wpMix P ops Q S n .nil a w := h
theorem mix_take {i : Nat} {r : Mx} {a : Act} {w : World} {o : Oper} {v : Value} (ho : ops[i]? = some o) (hg : o.guard = none) (hQ : ∀ c a' w', Q (.panic c) (a'.put o.dst v) w' → Q (.panic c) a' w')
    (hS : S w) (hv : ∀ w, S w → (execOp a.eval o).run P w = .ok (.value v) w) (h : wpMix P ops Q S n r (a.put o.dst v) w) : wpMix P ops Q S n (.held i r) a w :=
  ⟨hS, o, v, ho, Or.inl ⟨by simp [Region.wanted, hg], hv⟩, hQ, h⟩
theorem mix_pure {i : Nat} {r : Mx} {a : Act} {w : World} {o : Oper} {v : Value} (ho : ops[i]? = some o) (hg : o.guard = none) (hQ : ∀ c a' w', Q (.panic c) (a'.put o.dst v) w' → Q (.panic c) a' w')
    (hn : n ≤ i) (hv : ∀ w, (execOp a.eval o).run P w = .ok (.value v) w) (h : wpMix P ops Q S n r (a.put o.dst v) w) : wpMix P ops Q S n (.pure i r) a w :=
  ⟨fun h => absurd h (by omega), o, v, ho, Or.inl ⟨by simp [Region.wanted, hg], fun w _ => hv w⟩, hQ, h⟩
theorem mix_op {i : Nat} {r : Mx} {a : Act} {w : World} {o : Oper} (ho : ops[i]? = some o) (hg : o.guard = none)
    (h : ∀ K : Act → World → Prop, (∀ a' w', (i < n → S w') ∧ wpMix P ops Q S n r a' w' → K a' w') → o.wp P a w K Q) : wpMix P ops Q S n (.op i r) a w := by
  show wpOp P ops Q i _ a w
  unfold wpOp
  simp only [ho, Region.wanted, hg, if_true]
  exact .inl (h _ fun a' w' h => h)
/-- .. where the operation is guarded, and wanted -/
theorem mix_take_g {i : Nat} {r : Mx} {a : Act} {w : World} {o : Oper} {v : Value} (ho : ops[i]? = some o) (hw : Region.wanted o (yielded ops a.tmps) = true) (hQ : ∀ c a' w', Q (.panic c) (a'.put o.dst v) w' → Q (.panic c) a' w')
    (hS : S w) (hv : ∀ w, S w → (execOp a.eval o).run P w = .ok (.value v) w) (h : wpMix P ops Q S n r (a.put o.dst v) w) : wpMix P ops Q S n (.held i r) a w :=
  ⟨hS, o, v, ho, Or.inl ⟨hw, hv⟩, hQ, h⟩
theorem mix_op_g {i : Nat} {r : Mx} {a : Act} {w : World} {o : Oper} (ho : ops[i]? = some o) (hw : Region.wanted o (yielded ops a.tmps) = true)
    (h : ∀ K : Act → World → Prop, (∀ a' w', (i < n → S w') ∧ wpMix P ops Q S n r a' w' → K a' w') → o.wp P a w K Q) : wpMix P ops Q S n (.op i r) a w := by
  show wpOp P ops Q i _ a w
  unfold wpOp
  simp only [ho, hw, if_true]
  exact .inl (h _ fun a' w' h => h)
theorem mix_two {i j : Nat} {r r' : Mx} {a : Act} {w : World} (h : wpMix P ops Q S n (.op i r) a w) (h' : wpMix P ops Q S n (.op j r') a w) : wpMix P ops Q S n (.two i j r r') a w := ⟨h, h'⟩
end
end Go.Proofs.YtbgkabgbgbebaaaDoor
