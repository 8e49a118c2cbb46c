/- A region that draws its order, walked along a tree of orders, with two facts about worlds: S2 behind every operation, S behind every one that is not weak. A value that S2 gives may be taken at any time; one that S gives, where every weak operation that is still to come waits for it. -/
import Derived.Test.YtpjmdilpldaapaaDoorUmix
namespace Go.Proofs.YtpjmdilpldaapaaDoor
section
variable {P : Program} {ops : Array Oper} {Q : Exit → Act → World → Prop} {md : Region.Mode} {S S2 : World → Prop} {wk : List Nat} {R : Nat → World → Prop}

/-- Whatever order is picked from here on; R holds behind every operation that is carried out. -/
def wpAnyR (P : Program) (md : Region.Mode) (ops : Array Oper) (Q : Exit → Act → World → Prop) (R : Nat → World → Prop) : Nat → Array Bool → Act → World → Prop
  | 0, listed, a, w => Region.ready md ops listed = [] ∧ Q .normal a w
  | fuel + 1, listed, a, w =>
    (Region.ready md ops listed = [] → Q .normal a w) ∧
    ∀ i ∈ Region.ready md ops listed, wpOp P ops Q i (fun a' w' => R i w' ∧ wpAnyR P md ops Q R fuel (listed.setIfInBounds i true) a' w') a w
theorem wpAny_of_R : ∀ (fuel : Nat) (listed : Array Bool) (a : Act) (w : World), wpAnyR P md ops Q R fuel listed a w → wpAny P md ops Q fuel listed a w
  | 0, _, _, _, h => h
  | fuel + 1, _, _, _, h => ⟨h.1, fun i hi => wpOp_mono (fun a' w' h' => wpAny_of_R fuel _ a' w' h'.2) (h.2 i hi)⟩
theorem getD_set_up {l0 l : Array Bool} {j : Nat} (h : ∀ k, l0.getD k true = true → l.getD k true = true) : ∀ k, l0.getD k true = true → (l.setIfInBounds j true).getD k true = true := by
  intro k hk
  by_cases hjk : j = k
  · subst hjk
    simp only [Array.getD_eq_getD_getElem?, Array.getElem?_setIfInBounds]
    rw [if_pos trivial]
    split <;> rfl
  · rw [getD_set_ne true hjk]; exact h k hk

theorem wpAnyR_first {S' : World → Prop} {i : Nat} {oi : Oper} {v : Value} (hi : ops[i]? = some oi) (hsel : ∀ (j : Nat) (o : Oper) cs b, ops[j]? = some o → o.op ≠ .select cs b) (l0 : Array Bool)
    (hS' : ∀ (listed : Array Bool) (j : Nat) (w : World), (∀ k, l0.getD k true = true → listed.getD k true = true) → listed.getD i true = false → j ∈ Region.ready md ops listed → j ≠ i → R j w → S' w) (hSS : ∀ w, S' w → R i w)
    (hQ : ∀ c a w, Q (.panic c) (a.put oi.dst v) w → Q (.panic c) a w) :
    ∀ (fuel : Nat) (listed : Array Bool) (a : Act) (w : World), (∀ k, l0.getD k true = true → listed.getD k true = true) →
      (∀ j oj, ops[j]? = some oj → j ≠ i → listed.getD j true = false → (∀ e ∈ oj.after, Region.binds md e = true → e.on ≠ i) → oi.apart ops oj = true) →
      i ∈ Region.ready md ops listed → YieldsIf P ops S' oi v a → S' w →
      wpAnyR P md ops Q R fuel (listed.setIfInBounds i true) (a.put oi.dst v) w → wpAnyR P md ops Q R (fuel + 1) listed a w := by
  intro fuel
  induction fuel with
  | zero =>
    intro listed a w _ _ hr hy hS H
    refine ⟨fun h => (by rw [h] at hr; cases hr), fun j hj => ?_⟩
    by_cases hji : j = i
    · subst hji; exact hy.wpOp hi hS ⟨hSS w hS, H⟩
    · have := ready_mono hj hji
      rw [H.1] at this
      cases this
  | succ fuel ih =>
    intro listed a w hsub hfree hr hy hS H
    have hun := (mem_ready.1 hr).1
    refine ⟨fun h => (by rw [h] at hr; cases hr), fun j hj => ?_⟩
    by_cases hji : j = i
    · subst hji; exact hy.wpOp hi hS ⟨hSS w hS, H⟩
    · have h1 := H.2 j (ready_mono hj hji)
      obtain ⟨hjun, oj, hoj, hall⟩ := mem_ready.1 hj
      have hnot : ∀ e ∈ oj.after, Region.binds md e = true → e.on ≠ i := fun e he hb heq => by
        have h1 := hall e he hb
        rw [heq, getD_both hun] at h1
        cases h1
      have h2 := wpOp_putIf hoj (hfree j oj hoj hji hjun hnot) (fun cs b => hsel i oi cs b hi) (fun cs b => hsel j oj cs b hoj) hQ hy h1
      have hfree' : ∀ k ok, ops[k]? = some ok → k ≠ i → (listed.setIfInBounds j true).getD k true = false →
          (∀ e ∈ ok.after, Region.binds md e = true → e.on ≠ i) → oi.apart ops ok = true := fun k ok hk hki hu hno => by
        refine hfree k ok hk hki ?_ hno
        by_cases hjk : j = k
        · subst hjk; exact hjun
        · rw [getD_set_ne true hjk] at hu; exact hu
      refine wpOp_mono (fun a' w' h3 => ⟨h3.2.1, ih (listed.setIfInBounds j true) a' w' (getD_set_up hsub) hfree' (ready_mono hr (Ne.symm hji)) h3.1 (hS' listed j w' hsub hun hj hji h3.2.1) ?_⟩) h2
      rw [Array.setIfInBounds_comm _ _ hji]
      exact h3.2.2

/-- what is asked behind operation j -/
def askR (S S2 : World → Prop) (wk : List Nat) (j : Nat) (w : World) : Prop := (wk.contains j = false → S w) ∧ S2 w
/-- The walk along the tree. -/
def wpMix4 (P : Program) (ops : Array Oper) (Q : Exit → Act → World → Prop) (S S2 : World → Prop) (wk : List Nat) : Mx3 → Act → World → Prop
  | .nil, a, w => Q .normal a w
  | .held i r, a, w | .pure i r, a, w => askR S S2 wk i w ∧ ∃ o v, ops[i]? = some o ∧ YieldsIf P ops (askR S S2 wk i) o v a ∧ (∀ c a' w', Q (.panic c) (a'.put o.dst v) w' → Q (.panic c) a' w') ∧ wpMix4 P ops Q S S2 wk r (a.put o.dst v) w
  | .op i r, a, w => wpOp P ops Q i (fun a' w' => askR S S2 wk i w' ∧ wpMix4 P ops Q S S2 wk r a' w') a w
  | .two i j r r', a, w => wpOp P ops Q i (fun a' w' => askR S S2 wk i w' ∧ wpMix4 P ops Q S S2 wk r a' w') a w ∧ wpOp P ops Q j (fun a' w' => askR S S2 wk j w' ∧ wpMix4 P ops Q S S2 wk r' a' w') a w
  | .three i j k r r' r'', a, w => wpOp P ops Q i (fun a' w' => askR S S2 wk i w' ∧ wpMix4 P ops Q S S2 wk r a' w') a w ∧ wpOp P ops Q j (fun a' w' => askR S S2 wk j w' ∧ wpMix4 P ops Q S S2 wk r' a' w') a w ∧ wpOp P ops Q k (fun a' w' => askR S S2 wk k w' ∧ wpMix4 P ops Q S S2 wk r'' a' w') a w
/-- that every weak operation that is still to come waits for i -/
def wkB (md : Region.Mode) (ops : Array Oper) (wk : List Nat) (listed : Array Bool) (i : Nat) : Bool := wk.contains i || (wk.all fun j => listed.getD j true || Region.waitsFor md ops j i)
/-- That the tree holds every order that the edges allow. -/
def mixB4 (md : Region.Mode) (ops : Array Oper) (wk : List Nat) : Mx3 → Array Bool → Bool
  | .nil, listed => (Region.ready md ops listed).isEmpty
  | .held i r, listed | .pure i r, listed => (Region.ready md ops listed).contains i && Region.free md ops listed i && wkB md ops wk listed i && mixB4 md ops wk r (listed.setIfInBounds i true)
  | .op i r, listed => decide (Region.ready md ops listed = [i]) && mixB4 md ops wk r (listed.setIfInBounds i true)
  | .two i j r r', listed => decide (Region.ready md ops listed = [i, j]) && decide (r.len = r'.len) && mixB4 md ops wk r (listed.setIfInBounds i true) && mixB4 md ops wk r' (listed.setIfInBounds j true)
  | .three i j k r r' r'', listed => decide (Region.ready md ops listed = [i, j, k]) && decide (r.len = r'.len) && decide (r.len = r''.len) && mixB4 md ops wk r (listed.setIfInBounds i true) && mixB4 md ops wk r' (listed.setIfInBounds j true) && mixB4 md ops wk r'' (listed.setIfInBounds k true)
def mixOk4 (md : Region.Mode) (ops : Array Oper) (wk : List Nat) (order : Mx3) : Bool :=
  Region.noSelect ops && decide (order.len = ops.size) && mixB4 md ops wk order (Array.replicate ops.size false)

theorem mix4_take_first (hsel : Region.noSelect ops = true) {i : Nat} {o : Oper} {v : Value} {listed : Array Bool} {a : Act} {w : World} {fuel : Nat} (hr : (Region.ready md ops listed).contains i = true) (hf : Region.free md ops listed i = true) (hwk : wkB md ops wk listed i = true) (hS : askR S S2 wk i w) (ho : ops[i]? = some o)
    (hy : YieldsIf P ops (askR S S2 wk i) o v a) (hQ : ∀ c a' w', Q (.panic c) (a'.put o.dst v) w' → Q (.panic c) a' w') (h : wpAnyR P md ops Q (askR S S2 wk) fuel (listed.setIfInBounds i true) (a.put o.dst v) w) : wpAnyR P md ops Q (askR S S2 wk) (fuel + 1) listed a w := by
  refine wpAnyR_first ho (Region.noSelect_spec hsel) listed (fun l j w hsub hun hj hji hR => ⟨fun hi => hR.1 ?_, hR.2⟩) (fun _ h => h) hQ fuel listed a w (fun _ h => h) (Region.free_spec ho hf) (by simpa using hr) hy hS h
  unfold wkB at hwk
  rw [hi, Bool.false_or, List.all_eq_true] at hwk
  cases hc : wk.contains j with
  | false => rfl
  | true =>
    exfalso
    obtain ⟨hjun, oj, hoj, hall⟩ := mem_ready.1 hj
    have h1 := hwk j (by simpa using hc)
    rw [Bool.or_eq_true] at h1
    rcases h1 with h1 | h1
    · rw [hsub j h1] at hjun; cases hjun
    · obtain ⟨o', ho', e, he, hbi, hon⟩ := Region.waitsFor_spec h1
      have : o' = oj := Option.some.inj (ho'.symm.trans hoj)
      subst this
      have h2 := hall e he hbi
      rw [hon, getD_both hun] at h2
      cases h2
theorem wpAnyR_of_mix4 (hsel : Region.noSelect ops = true) :
    ∀ (order : Mx3) (listed : Array Bool) (a : Act) (w : World), mixB4 md ops wk order listed = true → wpMix4 P ops Q S S2 wk order a w → wpAnyR P md ops Q (askR S S2 wk) order.len listed a w
  | .nil, listed, a, w, hB, h => ⟨by simpa [mixB4] using hB, h⟩
  | .held i r, listed, a, w, hB, h => by
    simp only [mixB4, Bool.and_eq_true] at hB
    obtain ⟨⟨⟨hr, hf⟩, hwk⟩, hB2⟩ := hB
    obtain ⟨hS, o, v, ho, hy, hQ, hrest⟩ := h
    exact mix4_take_first hsel hr hf hwk hS ho hy hQ (wpAnyR_of_mix4 hsel r _ _ _ hB2 hrest)
  | .pure i r, listed, a, w, hB, h => by
    simp only [mixB4, Bool.and_eq_true] at hB
    obtain ⟨⟨⟨hr, hf⟩, hwk⟩, hB2⟩ := hB
    obtain ⟨hS, o, v, ho, hy, hQ, hrest⟩ := h
    exact mix4_take_first hsel hr hf hwk hS ho hy hQ (wpAnyR_of_mix4 hsel r _ _ _ hB2 hrest)
  | .op i r, listed, a, w, hB, h => by
    simp only [mixB4, Bool.and_eq_true, decide_eq_true_eq] at hB
    refine ⟨fun h0 => (by rw [hB.1] at h0; cases h0), fun j hj => ?_⟩
    rw [hB.1] at hj
    obtain rfl : j = i := by simpa using hj
    exact wpOp_mono (fun a' w' h' => ⟨h'.1, wpAnyR_of_mix4 hsel r _ a' w' hB.2 h'.2⟩) h
  | .two i k r r', listed, a, w, hB, h => by
    simp only [mixB4, Bool.and_eq_true, decide_eq_true_eq] at hB
    obtain ⟨⟨⟨hr, hlen⟩, hB1⟩, hB2⟩ := hB
    refine ⟨fun h0 => (by rw [hr] at h0; cases h0), fun j hj => ?_⟩
    rw [hr] at hj
    simp only [List.mem_cons, List.not_mem_nil, or_false] at hj
    rcases hj with rfl | rfl
    · exact wpOp_mono (fun a' w' h' => ⟨h'.1, wpAnyR_of_mix4 hsel r _ a' w' hB1 h'.2⟩) h.1
    · exact wpOp_mono (fun a' w' h' => ⟨h'.1, by rw [hlen]; exact wpAnyR_of_mix4 hsel r' _ a' w' hB2 h'.2⟩) h.2
  | .three i k m r r' r'', listed, a, w, hB, h => by
    simp only [mixB4, Bool.and_eq_true, decide_eq_true_eq] at hB
    obtain ⟨⟨⟨⟨⟨hr, hlen⟩, hlen2⟩, hB1⟩, hB2⟩, hB3⟩ := hB
    refine ⟨fun h0 => (by rw [hr] at h0; cases h0), fun j hj => ?_⟩
    rw [hr] at hj
    simp only [List.mem_cons, List.not_mem_nil, or_false] at hj
    rcases hj with rfl | rfl | rfl
    · exact wpOp_mono (fun a' w' h' => ⟨h'.1, wpAnyR_of_mix4 hsel r _ a' w' hB1 h'.2⟩) h.1
    · exact wpOp_mono (fun a' w' h' => ⟨h'.1, by rw [hlen]; exact wpAnyR_of_mix4 hsel r' _ a' w' hB2 h'.2⟩) h.2.1
    · exact wpOp_mono (fun a' w' h' => ⟨h'.1, by rw [hlen2]; exact wpAnyR_of_mix4 hsel r'' _ a' w' hB3 h'.2⟩) h.2.2
/-- THE RULE. -/
theorem wp_region_mix4 {id : Nat} {Q : Exit → Act → World → Prop} {a : Act} {w : World} {l : List Oper} (S S2 : World → Prop) (wk : List Nat) (order : Mx3) (hm : P.follows .mixedOrders = true)
    (hB : mixOk4 .any l.toArray wk order = true) (h : wpMix4 P l.toArray Q S S2 wk order a w.drew) : (Code.region id l.toArray true).wp P Q a w := by
  simp only [mixOk4, Bool.and_eq_true, decide_eq_true_eq] at hB
  obtain ⟨⟨hsel, hlen⟩, hB⟩ := hB
  refine wp_region_any hm ?_
  have := wpAny_of_R _ _ _ _ (wpAnyR_of_mix4 (md := .any) hsel order _ a w.drew hB h)
  rw [hlen] at this
  exact this
theorem mix4_nil {a : Act} {w : World} (h : Q .normal a w) : wpMix4 P ops Q S S2 wk .nil a w := h
/-- a value that S gives -/
theorem mix4_take {i : Nat} {r : Mx3} {a : Act} {w : World} {o : Oper} {v : Value} (ho : ops[i]? = some o) (hg : o.guard = none) (hw : wk.contains i = false) (hQ : ∀ c a' w', Q (.panic c) (a'.put o.dst v) w' → Q (.panic c) a' w')
    (hS : S w) (hS2 : S2 w) (hv : ∀ w, S w → S2 w → (execOp a.eval o).run P w = .ok (.value v) w) (h : wpMix4 P ops Q S S2 wk r (a.put o.dst v) w) : wpMix4 P ops Q S S2 wk (.held i r) a w :=
  ⟨⟨fun _ => hS, hS2⟩, o, v, ho, Or.inl ⟨by simp [Region.wanted, hg], fun w h => hv w (h.1 hw) h.2⟩, hQ, h⟩
/-- a value that S2 gives -/
theorem mix4_weak {i : Nat} {r : Mx3} {a : Act} {w : World} {o : Oper} {v : Value} (ho : ops[i]? = some o) (hg : o.guard = none) (hw : wk.contains i = true) (hQ : ∀ c a' w', Q (.panic c) (a'.put o.dst v) w' → Q (.panic c) a' w')
    (hS2 : S2 w) (hv : ∀ w, S2 w → (execOp a.eval o).run P w = .ok (.value v) w) (h : wpMix4 P ops Q S S2 wk r (a.put o.dst v) w) : wpMix4 P ops Q S S2 wk (.held i r) a w :=
  ⟨⟨fun e => absurd (hw.symm.trans e) (by decide), hS2⟩, o, v, ho, Or.inl ⟨by simp [Region.wanted, hg], fun w h => hv w h.2⟩, hQ, h⟩
theorem mix4_op {i : Nat} {r : Mx3} {a : Act} {w : World} {o : Oper} (ho : ops[i]? = some o) (hg : o.guard = none)
    (h : ∀ K : Act → World → Prop, (∀ a' w', askR S S2 wk i w' ∧ wpMix4 P ops Q S S2 wk r a' w' → K a' w') → o.wp P a w K Q) : wpMix4 P ops Q S S2 wk (.op i r) a w := by
  show wpOp P ops Q i _ a w
  unfold wpOp
  simp only [ho, Region.wanted, hg, if_true]
  exact .inl (h _ fun a' w' h => h)
theorem mix4_two {i j : Nat} {r r' : Mx3} {a : Act} {w : World} (h : wpMix4 P ops Q S S2 wk (.op i r) a w) (h' : wpMix4 P ops Q S S2 wk (.op j r') a w) : wpMix4 P ops Q S S2 wk (.two i j r r') a w := ⟨h, h'⟩
theorem mix4_three {i j k : Nat} {r r' r'' : Mx3} {a : Act} {w : World} (h : wpMix4 P ops Q S S2 wk (.op i r) a w) (h' : wpMix4 P ops Q S S2 wk (.op j r') a w) (h'' : wpMix4 P ops Q S S2 wk (.op k r'') a w) : wpMix4 P ops Q S S2 wk (.three i j k r r' r'') a w := ⟨h, h', h''⟩
/-- .. where the operation is guarded, and wanted -/
theorem mix4_op_g {i : Nat} {r : Mx3} {a : Act} {w : World} {o : Oper} (ho : ops[i]? = some o) (hw : Region.wanted o (yielded ops a.tmps) = true)
    (h : ∀ K : Act → World → Prop, (∀ a' w', askR S S2 wk i w' ∧ wpMix4 P ops Q S S2 wk r a' w' → K a' w') → o.wp P a w K Q) : wpMix4 P ops Q S S2 wk (.op i r) a w := by
  show wpOp P ops Q i _ a w
  unfold wpOp
  simp only [ho, hw, if_true]
  exact .inl (h _ fun a' w' h => h)
end
end Go.Proofs.YtpjmdilpldaapaaDoor
