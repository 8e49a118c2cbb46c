/- What stands behind a store into a box. -/
import Derived.Test.YtkbkgiihgghbeaaDoorSapplyLaw
import Derived.Test.YtkbkgiihgghbeaaDoorSmadev
import Derived.Test.YtkbkgiihgghbeaaDoorSopenD
import Derived.Test.YtkbkgiihgghbeaaDoorScomposeLaw
namespace Go.Proofs.YtkbkgiihgghbeaaDoor
open Go.RowKit Go.Sort

theorem region_cut {P : Program} {c : Code} {Q : Exit → Act → World → Prop} {a : Act} {w : World} (R : Act → Act → World → Prop) (h : c.wp P (fun e a' w' => e = .normal ∧ R a a' w') a w)
    (hr : ∀ a' w', R a a' w' → Q .normal a' w') : c.wp P Q a w :=
  Code.wp_mono (fun e a' w' ⟨h1, h2⟩ => by subst h1; exact hr a' w' h2) h
theorem heap_put4 {W : World} {B : Nat} {a b c d x y z u : Value} {T : TypeId} (h : W.heap[B]? = some (.cells #[a, b, c, d] T (0, 0))) :
    ((((W.setCell ⟨B, 0, none⟩ x).setCell ⟨B, 1, none⟩ y).setCell ⟨B, 2, none⟩ z).setCell ⟨B, 3, none⟩ u).heap[B]? = some (.cells #[x, y, z, u] T (0, 0)) := by
  simp [World.setCell, Array.getElem?_modify, h]
theorem cell_put4 {W : World} {B : Nat} {x y z u : Value} {q : Addr} (hq : q.block ≠ B) :
    ((((W.setCell ⟨B, 0, none⟩ x).setCell ⟨B, 1, none⟩ y).setCell ⟨B, 2, none⟩ z).setCell ⟨B, 3, none⟩ u).cell? q = W.cell? q := by
  have hne : ∀ o, (⟨B, o, none⟩ : Addr) ≠ q := fun o e => hq (by rw [← e])
  rw [World.cell?_setCell_other _ _ _ _ (hne _), World.cell?_setCell_other _ _ _ _ (hne _), World.cell?_setCell_other _ _ _ _ (hne _), World.cell?_setCell_other _ _ _ _ (hne _)]
/-- a checked term's kids do not lie in a box of zeroes -/
theorem zero_first {w : World} {bx b off : Nat} {k : Int} {T : TypeId} (hz : w.heap[bx]? = some (.cells #[.int .i64 0, .string ⟨#[]⟩, .int .i64 0, .slice none 0 0] T (0, 0))) (h : w.cell? ⟨b, off, none⟩ = some (.int .i64 k)) (hk : k ≠ 0) : b ≠ bx := by
  rintro rfl
  unfold World.cell? at h
  rw [hz] at h
  match off with
  | 0 => simp at h; omega
  | 1 => simp at h
  | 2 => simp at h; omega
  | 3 => simp at h
  | n + 4 => simp at h
theorem check_kind_ne {t : Tm} (h : t.check = 0) : t.kind ≠ 0 := by
  obtain ⟨k, n, s, l⟩ := t
  rw [Tm.check] at h
  show k ≠ 0
  split at h
  · omega
  · split at h
    · omega
    · omega
theorem chks_cons {t : Tm} {r : List Tm} (h : Tm.checks (t :: r) = 0) : t.check = 0 ∧ Tm.checks r = 0 := by
  rw [Tm.checks] at h
  split at h
  · rename_i g; exact absurd h g
  · rename_i g; exact ⟨Classical.byContradiction g, h⟩
mutual
theorem rep_avoid {w : World} {P : Nat → Prop} {bx : Nat} {T : TypeId} (hz : w.heap[bx]? = some (.cells #[.int .i64 0, .string ⟨#[]⟩, .int .i64 0, .slice none 0 0] T (0, 0))) :
    ∀ (t : Tm) (A : Option Addr) (c : Nat), t.check = 0 → RepP w P t A c → RepP w (fun b => P b ∧ b ≠ bx) t A c
  | .mk k n s l, A, c, hc, h => by
    rw [RepP_mk] at h ⊢
    obtain ⟨h1, h2, h3, h4⟩ := h
    refine ⟨h1, h2, h3, ?_⟩
    rcases h4 with h4 | ⟨b, off, e, hb, hl⟩
    · exact .inl h4
    · by_cases h0 : l = []
      · exact .inl h0
      · have hck : Tm.checks l = 0 := by
          by_cases hk : k = 1 ∨ k = 2
          · rw [Tm.check, if_pos hk] at hc
            split at hc
            · omega
            · rename_i g; exact absurd (Classical.byContradiction fun e => g (.inr (.inr e))) h0
          · rw [Tm.check, if_neg hk] at hc
            split at hc
            · split at hc
              · omega
              · split at hc
                · omega
                · split at hc
                  · omega
                  · exact hc
            · omega
        refine .inr ⟨b, off, e, ⟨hb, ?_⟩, repL_avoid hz l b off hck hl⟩
        cases l with
        | nil => exact absurd rfl h0
        | cons t r =>
          rw [RepLP] at hl
          obtain ⟨⟨_, _, g0, _⟩, _⟩ := hl
          exact zero_first hz g0 (check_kind_ne (chks_cons hck).1)
theorem repL_avoid {w : World} {P : Nat → Prop} {bx : Nat} {T : TypeId} (hz : w.heap[bx]? = some (.cells #[.int .i64 0, .string ⟨#[]⟩, .int .i64 0, .slice none 0 0] T (0, 0))) :
    ∀ (l : List Tm) (b off : Nat), Tm.checks l = 0 → RepLP w P l b off → RepLP w (fun b => P b ∧ b ≠ bx) l b off
  | [], _, _, _, _ => by rw [RepLP]; trivial
  | t :: r, b, off, hc, h => by
    obtain ⟨c1, c2⟩ := chks_cons hc
    rw [RepLP] at h ⊢
    obtain ⟨⟨A, c, g0, g1, g2, g3, g4⟩, hr⟩ := h
    exact ⟨⟨A, c, g0, g1, g2, g3, rep_avoid hz t A c c1 g4⟩, repL_avoid hz r b (off + 4) c2 hr⟩
end
theorem flat_checks : ∀ {l : List Bd}, (∀ b ∈ l, b.1.check = 0 ∧ b.2.check = 0) → Tm.checks (flat l) = 0
  | [], _ => rfl
  | b :: r, h => by
    obtain ⟨h1, h2⟩ := h b (List.mem_cons_self ..)
    rw [flat, Tm.checks, if_neg (by simpa using h1), Tm.checks, if_neg (by simpa using h2)]
    exact flat_checks fun c hc => h c (List.mem_cons_of_mem _ hc)
theorem repB_avoid {w : World} {P : Nat → Prop} {bx : Nat} {T : TypeId} (hz : w.heap[bx]? = some (.cells #[.int .i64 0, .string ⟨#[]⟩, .int .i64 0, .slice none 0 0] T (0, 0))) {l : List Bd} (hl : ∀ b ∈ l, b.1.check = 0 ∧ b.2.check = 0) {A : Option Addr} {c : Nat}
    (h : RepB w P l A c) : RepB w (fun b => P b ∧ b ≠ bx) l A c := by
  obtain ⟨h1, h2, h3⟩ := h
  refine ⟨h1, h2, ?_⟩
  rcases h3 with h3 | ⟨b, off, e, hb, hlp⟩
  · exact .inl h3
  · cases l with
    | nil => exact .inl rfl
    | cons x r =>
      have hf := flat_checks hl
      refine .inr ⟨b, off, e, ⟨hb, ?_⟩, repL_avoid hz _ b off hf hlp⟩
      rw [flat, RepLP] at hlp
      obtain ⟨⟨_, _, g0, _⟩, _⟩ := hlp
      exact zero_first hz g0 (check_kind_ne (hl x (List.mem_cons_self ..)).1)
theorem valid_checks {s : List Bd} (h : validS s = 0) : ∀ b ∈ s, b.1.check = 0 ∧ b.2.check = 0 := fun b hb => by
  have := bindE_zero ((validS_zero h).2.1 b hb)
  exact ⟨valid_chk this.1, valid_chk this.2.2.2.1⟩
theorem laws_plain {s t : List Bd} {u : Tm} (hs : validS s = 0) (ht : validS t = 0) (_hu : u.valid = 0) : ((composeE s t).2 = 0 ∨ (composeE s t).2 = 3) ∧
    ((composeE s t).2 = 0 → (composeE t s).2 = 0 → (ApplyE (composeE s t).1 u).2 = 0 → (ApplyE s u).2 = 0 → (ApplyE t (ApplyE s u).1).2 = 0 →
      validS (composeE s t).1 = 0 ∧ (ApplyE (composeE s t).1 u).1 = (ApplyE t (ApplyE s u).1).1 ∧ ((composeE (composeE s t).1 s).2 = 0 → (composeE s (composeE t s).1).2 = 0 → (composeE (composeE s t).1 s).1 = (composeE s (composeE t s).1).1)) := by
  refine ⟨compose_small hs ht, fun h1 h2 h3 h4 h5 => ⟨compose_valid h1, ?_, fun h6 h7 => compose_assoc h1 h2 h6 h7⟩⟩
  have key : ∀ {s : List Bd} {u : Tm}, (ApplyE s u).2 = 0 → (ApplyE s u).1 = u.put s := fun {s u} h => by
    unfold ApplyE at h ⊢
    split at h
    · rename_i g; exact absurd h g
    · rename_i g
      rw [if_neg g]
      exact (applyE_ok (s := s) (t := u) (u := (applyE s u).1) (n := (applyE s u).2) rfl h).1
  rw [key h3, key h5, key h4, compose_put h1]
/-- behind the store into the box -/
theorem laws_fin {w0 Y : World} {s t : List Bd} {u : Tm} {Aa Ab Ac : Option Addr} {ca cb cc bx : Nat} (hbl : w0.heap.size ≤ bx) (hS : Below w0.heap.size w0 Y) (hz : Y.heap[bx]? = some (.cells #[.int .i64 0, .string ⟨#[]⟩, .int .i64 0, .slice none 0 0] 30 (0, 0)))
    (hs : validS s = 0) (ht : validS t = 0) (hu : u.valid = 0) (ra : RepB Y (fun b => b < Y.heap.size) s Aa ca) (rb : RepB Y (fun b => b < Y.heap.size) t Ab cb) (rc : RepT Y Y.heap.size u Ac cc) :
    let X := ((((Y.setCell ⟨bx, 0, none⟩ (.int .i64 u.kind)).setCell ⟨bx, 1, none⟩ (.string u.name)).setCell ⟨bx, 2, none⟩ (.int .i64 u.sort)).setCell ⟨bx, 3, none⟩ (.slice Ac u.kids.length cc))
    RepB X (fun b => b < X.heap.size) s Aa ca ∧ RepB X (fun b => b < X.heap.size) t Ab cb ∧ BoxT X bx u Ac cc ∧ Below w0.heap.size w0 X := by
  intro X
  have hsz : X.heap.size = Y.heap.size := by simp [X, World.setCell]
  refine ⟨RepB.mono (fun b ⟨h, _⟩ => by omega) (fun q ⟨_, h⟩ => cell_put4 h) (repB_avoid hz (valid_checks hs) ra), RepB.mono (fun b ⟨h, _⟩ => by omega) (fun q ⟨_, h⟩ => cell_put4 h) (repB_avoid hz (valid_checks ht) rb),
    ⟨heap_put4 hz, RepP.mono (fun b ⟨h, _⟩ => by omega) (fun q ⟨_, h⟩ => cell_put4 h) _ _ _ (rep_avoid hz u Ac cc (valid_chk hu) rc)⟩, ?_⟩
  exact (((hS.setCell hbl _).setCell hbl _).setCell hbl _).setCell hbl _

end Go.Proofs.YtkbkgiihgghbeaaDoor
