/- A region that draws its order, walked along a tree of orders in which three operations may be ready at once (XMix has two). -/
import Derived.Test.YtpjmdilpldaapaaDoorGa
namespace Go.Proofs.YtpjmdilpldaapaaDoor
section
variable {P : Program} {ops : Array Oper} {Q : Exit → Act → World → Prop} {md : Region.Mode} {S : World → Prop} {n : Nat}

/-- A tree of orders. -/
inductive Mx3 where
  | nil
  | held (i : Nat) (r : Mx3)
  | pure (i : Nat) (r : Mx3)
  | op (i : Nat) (r : Mx3)
  | two (i j : Nat) (r r' : Mx3)
  | three (i j k : Nat) (r r' r'' : Mx3)
def Mx3.len : Mx3 → Nat
  | .nil => 0
  | .held _ r | .pure _ r | .op _ r => r.len + 1
  | .two _ _ r _ => r.len + 1
  | .three _ _ _ r _ _ => r.len + 1
/-- The walk along the tree. -/
def wpMix3 (P : Program) (ops : Array Oper) (Q : Exit → Act → World → Prop) (S : World → Prop) (n : Nat) : Mx3 → Act → World → Prop
  | .nil, a, w => Q .normal a w
  | .held i r, a, w => S w ∧ ∃ o v, ops[i]? = some o ∧ YieldsIf P ops S o v a ∧ (∀ c a' w', Q (.panic c) (a'.put o.dst v) w' → Q (.panic c) a' w') ∧ wpMix3 P ops Q S n r (a.put o.dst v) w
  | .pure i r, a, w => (i < n → S w) ∧ ∃ o v, ops[i]? = some o ∧ YieldsIf P ops (fun _ => True) o v a ∧ (∀ c a' w', Q (.panic c) (a'.put o.dst v) w' → Q (.panic c) a' w') ∧ wpMix3 P ops Q S n r (a.put o.dst v) w
  | .op i r, a, w => wpOp P ops Q i (fun a' w' => (i < n → S w') ∧ wpMix3 P ops Q S n r a' w') a w
  | .two i j r r', a, w => wpOp P ops Q i (fun a' w' => (i < n → S w') ∧ wpMix3 P ops Q S n r a' w') a w ∧ wpOp P ops Q j (fun a' w' => (j < n → S w') ∧ wpMix3 P ops Q S n r' a' w') a w
  | .three i j k r r' r'', a, w => wpOp P ops Q i (fun a' w' => (i < n → S w') ∧ wpMix3 P ops Q S n r a' w') a w ∧ wpOp P ops Q j (fun a' w' => (j < n → S w') ∧ wpMix3 P ops Q S n r' a' w') a w ∧ wpOp P ops Q k (fun a' w' => (k < n → S w') ∧ wpMix3 P ops Q S n r'' a' w') a w
/-- That the tree holds every order that the edges allow. -/
def mixB3 (md : Region.Mode) (ops : Array Oper) (n : Nat) : Mx3 → Array Bool → Bool
  | .nil, listed => (Region.ready md ops listed).isEmpty
  | .held i r, listed => decide (i < n) && (Region.ready md ops listed).contains i && Region.free md ops listed i && mixB3 md ops n r (listed.setIfInBounds i true)
  | .pure i r, listed => decide (n ≤ i) && (Region.ready md ops listed).contains i && Region.free md ops listed i && mixB3 md ops n r (listed.setIfInBounds i true)
  | .op i r, listed => decide (Region.ready md ops listed = [i]) && mixB3 md ops n r (listed.setIfInBounds i true)
  | .two i j r r', listed => decide (Region.ready md ops listed = [i, j]) && decide (r.len = r'.len) && mixB3 md ops n r (listed.setIfInBounds i true) && mixB3 md ops n r' (listed.setIfInBounds j true)
  | .three i j k r r' r'', listed => decide (Region.ready md ops listed = [i, j, k]) && decide (r.len = r'.len) && decide (r.len = r''.len) && mixB3 md ops n r (listed.setIfInBounds i true) && mixB3 md ops n r' (listed.setIfInBounds j true) && mixB3 md ops n r'' (listed.setIfInBounds k true)
def mixOk3 (md : Region.Mode) (ops : Array Oper) (n : Nat) (order : Mx3) : Bool :=
  Region.noSelect ops && barB md ops n && decide (order.len = ops.size) && mixB3 md ops n order (Array.replicate ops.size false)

theorem wpAnyT_of_mix3 (hsel : Region.noSelect ops = true) (hb : barB md ops n = true) :
    ∀ (order : Mx3) (listed : Array Bool) (a : Act) (w : World), mixB3 md ops n order listed = true → wpMix3 P ops Q S n order a w → wpAnyT P md ops Q S n order.len listed a w
  | .nil, listed, a, w, hB, h => ⟨by simpa [mixB3] using hB, h⟩
  | .held i r, listed, a, w, hB, h => by
    simp only [mixB3, Bool.and_eq_true, decide_eq_true_eq] at hB
    obtain ⟨⟨⟨hin, hr⟩, hf⟩, hB2⟩ := hB
    obtain ⟨hS, o, v, ho, hy, hQ, hrest⟩ := h
    exact wpAnyT_first ho (Region.noSelect_spec hsel) (fun l j w hun hj hSw => hSw (bar_waits hb hin hun j hj)) (fun _ h _ => h) hQ r.len listed a w (Region.free_spec ho hf) (by simpa using hr) hy hS
      (wpAnyT_of_mix3 hsel hb r _ _ _ hB2 hrest)
  | .pure i r, listed, a, w, hB, h => by
    simp only [mixB3, Bool.and_eq_true, decide_eq_true_eq] at hB
    obtain ⟨⟨⟨hin, hr⟩, hf⟩, hB2⟩ := hB
    obtain ⟨_, o, v, ho, hy, hQ, hrest⟩ := h
    exact wpAnyT_first (S' := fun _ => True) ho (Region.noSelect_spec hsel) (fun _ _ _ _ _ _ => trivial) (fun _ _ h => absurd h (by omega)) hQ r.len listed a w (Region.free_spec ho hf) (by simpa using hr) hy trivial
      (wpAnyT_of_mix3 hsel hb r _ _ _ hB2 hrest)
  | .op i r, listed, a, w, hB, h => by
    simp only [mixB3, Bool.and_eq_true, decide_eq_true_eq] at hB
    refine ⟨fun h0 => (by rw [hB.1] at h0; cases h0), fun j hj => ?_⟩
    rw [hB.1] at hj
    obtain rfl : j = i := by simpa using hj
    exact wpOp_mono (fun a' w' h' => ⟨h'.1, wpAnyT_of_mix3 hsel hb r _ a' w' hB.2 h'.2⟩) h
  | .two i k r r', listed, a, w, hB, h => by
    simp only [mixB3, Bool.and_eq_true, decide_eq_true_eq] at hB
    obtain ⟨⟨⟨hr, hlen⟩, hB1⟩, hB2⟩ := hB
    refine ⟨fun h0 => (by rw [hr] at h0; cases h0), fun j hj => ?_⟩
    rw [hr] at hj
    simp only [List.mem_cons, List.not_mem_nil, or_false] at hj
    rcases hj with rfl | rfl
    · exact wpOp_mono (fun a' w' h' => ⟨h'.1, wpAnyT_of_mix3 hsel hb r _ a' w' hB1 h'.2⟩) h.1
    · exact wpOp_mono (fun a' w' h' => ⟨h'.1, by rw [hlen]; exact wpAnyT_of_mix3 hsel hb r' _ a' w' hB2 h'.2⟩) h.2
  | .three i k m r r' r'', listed, a, w, hB, h => by
    simp only [mixB3, Bool.and_eq_true, decide_eq_true_eq] at hB
    obtain ⟨⟨⟨⟨⟨hr, hlen⟩, hlen2⟩, hB1⟩, hB2⟩, hB3⟩ := hB
    refine ⟨fun h0 => (by rw [hr] at h0; cases h0), fun j hj => ?_⟩
    rw [hr] at hj
    simp only [List.mem_cons, List.not_mem_nil, or_false] at hj
    rcases hj with rfl | rfl | rfl
    · exact wpOp_mono (fun a' w' h' => ⟨h'.1, wpAnyT_of_mix3 hsel hb r _ a' w' hB1 h'.2⟩) h.1
    · exact wpOp_mono (fun a' w' h' => ⟨h'.1, by rw [hlen]; exact wpAnyT_of_mix3 hsel hb r' _ a' w' hB2 h'.2⟩) h.2.1
    · exact wpOp_mono (fun a' w' h' => ⟨h'.1, by rw [hlen2]; exact wpAnyT_of_mix3 hsel hb r'' _ a' w' hB3 h'.2⟩) h.2.2
/-- THE RULE. -/
theorem wp_region_mix3 {id : Nat} {Q : Exit → Act → World → Prop} {a : Act} {w : World} {l : List Oper} (S : World → Prop) (n : Nat) (order : Mx3) (hm : P.follows .mixedOrders = true)
    (hB : mixOk3 .any l.toArray n order = true) (h : wpMix3 P l.toArray Q S n order a w.drew) : (Code.region id l.toArray true).wp P Q a w := by
  simp only [mixOk3, Bool.and_eq_true, decide_eq_true_eq] at hB
  obtain ⟨⟨⟨hsel, hb⟩, hlen⟩, hB⟩ := hB
  refine wp_region_any hm ?_
  have := wpAny_of_T _ _ _ _ (wpAnyT_of_mix3 (md := .any) hsel hb order _ a w.drew hB h)
  rw [hlen] at this
  exact this
theorem mix3_nil {a : Act} {w : World} (h : Q .normal a w) : wpMix3 P ops Q S n .nil a w := h
theorem mix3_take {i : Nat} {r : Mx3} {a : Act} {w : World} {o : Oper} {v : Value} (ho : ops[i]? = some o) (hg : o.guard = none) (hQ : ∀ c a' w', Q (.panic c) (a'.put o.dst v) w' → Q (.panic c) a' w')
    (hS : S w) (hv : ∀ w, S w → (execOp a.eval o).run P w = .ok (.value v) w) (h : wpMix3 P ops Q S n r (a.put o.dst v) w) : wpMix3 P ops Q S n (.held i r) a w :=
  ⟨hS, o, v, ho, Or.inl ⟨by simp [Region.wanted, hg], hv⟩, hQ, h⟩
theorem mix3_pure {i : Nat} {r : Mx3} {a : Act} {w : World} {o : Oper} {v : Value} (ho : ops[i]? = some o) (hg : o.guard = none) (hQ : ∀ c a' w', Q (.panic c) (a'.put o.dst v) w' → Q (.panic c) a' w')
    (hn : n ≤ i) (hv : ∀ w, (execOp a.eval o).run P w = .ok (.value v) w) (h : wpMix3 P ops Q S n r (a.put o.dst v) w) : wpMix3 P ops Q S n (.pure i r) a w :=
  ⟨fun h => absurd h (by omega), o, v, ho, Or.inl ⟨by simp [Region.wanted, hg], fun w _ => hv w⟩, hQ, h⟩
theorem mix3_op {i : Nat} {r : Mx3} {a : Act} {w : World} {o : Oper} (ho : ops[i]? = some o) (hg : o.guard = none)
    (h : ∀ K : Act → World → Prop, (∀ a' w', (i < n → S w') ∧ wpMix3 P ops Q S n r a' w' → K a' w') → o.wp P a w K Q) : wpMix3 P ops Q S n (.op i r) a w := by
  show wpOp P ops Q i _ a w
  unfold wpOp
  simp only [ho, Region.wanted, hg, if_true]
  exact .inl (h _ fun a' w' h => h)
/-- .. where the operation is guarded, and wanted -/
theorem mix3_take_g {i : Nat} {r : Mx3} {a : Act} {w : World} {o : Oper} {v : Value} (ho : ops[i]? = some o) (hw : Region.wanted o (yielded ops a.tmps) = true) (hQ : ∀ c a' w', Q (.panic c) (a'.put o.dst v) w' → Q (.panic c) a' w')
    (hS : S w) (hv : ∀ w, S w → (execOp a.eval o).run P w = .ok (.value v) w) (h : wpMix3 P ops Q S n r (a.put o.dst v) w) : wpMix3 P ops Q S n (.held i r) a w :=
  ⟨hS, o, v, ho, Or.inl ⟨hw, hv⟩, hQ, h⟩
theorem mix3_op_g {i : Nat} {r : Mx3} {a : Act} {w : World} {o : Oper} (ho : ops[i]? = some o) (hw : Region.wanted o (yielded ops a.tmps) = true)
    (h : ∀ K : Act → World → Prop, (∀ a' w', (i < n → S w') ∧ wpMix3 P ops Q S n r a' w' → K a' w') → o.wp P a w K Q) : wpMix3 P ops Q S n (.op i r) a w := by
  show wpOp P ops Q i _ a w
  unfold wpOp
  simp only [ho, hw, if_true]
  exact .inl (h _ fun a' w' h => h)
theorem mix3_two {i j : Nat} {r r' : Mx3} {a : Act} {w : World} (h : wpMix3 P ops Q S n (.op i r) a w) (h' : wpMix3 P ops Q S n (.op j r') a w) : wpMix3 P ops Q S n (.two i j r r') a w := ⟨h, h'⟩
theorem mix3_three {i j k : Nat} {r r' r'' : Mx3} {a : Act} {w : World} (h : wpMix3 P ops Q S n (.op i r) a w) (h' : wpMix3 P ops Q S n (.op j r') a w) (h'' : wpMix3 P ops Q S n (.op k r'') a w) : wpMix3 P ops Q S n (.three i j k r r' r'') a w := ⟨h, h', h''⟩
end
end Go.Proofs.YtpjmdilpldaapaaDoor
