/- Terms whose parts lie apart from one another: their footprint, a place in them, and what stands there when the place is written anew. -/
import Derived.Test.YtbgkabgbgbebaaaDoorAt
namespace Go.Proofs.YtbgkabgbgbebaaaDoor
open Go.RowKit

mutual
/-- The kids of a term lie at A; fp lists the blocks of all slices of kids in it. -/
def RepF (w : World) : Tm → Option Addr → Nat → List Nat → Prop
  | .mk _ n _ l, A, cap, fp => n.size ≤ maxLen ∧ l.length ≤ cap ∧ cap ≤ maxLen ∧ ((l = [] ∧ fp = []) ∨ ∃ b fs, A = some ⟨b, 0, none⟩ ∧ fp = b :: fs ∧ (∀ o, w.frozen? ⟨b, o, none⟩ = false) ∧ RepLF w l b 0 fs)
def RepLF (w : World) : List Tm → Nat → Nat → List Nat → Prop
  | [], _, _, fs => fs = []
  | t :: r, b, off, fs => (∃ A cap f1 f2, w.cell? ⟨b, off, none⟩ = some (.int .i64 t.kind) ∧ w.cell? ⟨b, off + 1, none⟩ = some (.string t.name) ∧
      w.cell? ⟨b, off + 2, none⟩ = some (.int .i64 t.sort) ∧ w.cell? ⟨b, off + 3, none⟩ = some (.slice A t.kids.length cap) ∧ RepF w t A cap f1 ∧ fs = f1 ++ f2 ∧ RepLF w r b (off + 4) f2)
end
theorem RepF_mk {w : World} {k s : Int} {n : ByteArray} {l : List Tm} {A : Option Addr} {cap : Nat} {fp : List Nat} : RepF w (.mk k n s l) A cap fp =
    (n.size ≤ maxLen ∧ l.length ≤ cap ∧ cap ≤ maxLen ∧ ((l = [] ∧ fp = []) ∨ ∃ b fs, A = some ⟨b, 0, none⟩ ∧ fp = b :: fs ∧ (∀ o, w.frozen? ⟨b, o, none⟩ = false) ∧ RepLF w l b 0 fs)) := by rw [RepF]
mutual
theorem RepF.mono {w w' : World} : ∀ (t : Tm) (A : Option Addr) (cap : Nat) (fp : List Nat), RepF w t A cap fp → (∀ q : Addr, q.block ∈ fp → w'.cell? q = w.cell? q ∧ w'.frozen? q = w.frozen? q) → RepF w' t A cap fp
  | .mk _ n _ l, A, cap, fp, h, hc => by
    rw [RepF] at h ⊢
    obtain ⟨h1, h2, h3, h4⟩ := h
    refine ⟨h1, h2, h3, ?_⟩
    rcases h4 with h4 | ⟨b, fs, hA, hf, hz, hl⟩
    · exact .inl h4
    · subst hf
      refine .inr ⟨b, fs, hA, rfl, fun o => ?_, RepLF.mono l b 0 fs hl (fun q hq => ?_) (fun q hq => hc q (List.mem_cons_of_mem _ hq))⟩
      · rw [(hc ⟨b, o, none⟩ (List.mem_cons_self ..)).2]; exact hz o
      · exact (hc q (by rw [hq]; exact List.mem_cons_self ..)).1
theorem RepLF.mono {w w' : World} : ∀ (l : List Tm) (b off : Nat) (fs : List Nat), RepLF w l b off fs → (∀ q : Addr, q.block = b → w'.cell? q = w.cell? q) →
    (∀ q : Addr, q.block ∈ fs → w'.cell? q = w.cell? q ∧ w'.frozen? q = w.frozen? q) → RepLF w' l b off fs
  | [], _, _, _, h, _, _ => by rw [RepLF] at h ⊢; exact h
  | t :: r, b, off, fs, h, hb, hc => by
    rw [RepLF] at h ⊢
    obtain ⟨A, cap, f1, f2, h0, h1, h2, h3, h4, hf, hr⟩ := h
    subst hf
    exact ⟨A, cap, f1, f2, by rw [hb _ rfl]; exact h0, by rw [hb _ rfl]; exact h1, by rw [hb _ rfl]; exact h2, by rw [hb _ rfl]; exact h3, RepF.mono t A cap f1 h4 (fun q hq => hc q (List.mem_append_left _ hq)), rfl,
      RepLF.mono r b (off + 4) f2 hr hb (fun q hq => hc q (List.mem_append_right _ hq))⟩
end
mutual
theorem RepF.toP {w : World} {P : Nat → Prop} : ∀ (t : Tm) (A : Option Addr) (cap : Nat) (fp : List Nat), RepF w t A cap fp → (∀ b ∈ fp, P b) → RepP w P t A cap
  | .mk _ n _ l, A, cap, fp, h, hP => by
    rw [RepF] at h; rw [RepP]
    obtain ⟨h1, h2, h3, h4⟩ := h
    refine ⟨h1, h2, h3, ?_⟩
    rcases h4 with h4 | ⟨b, fs, hA, hf, _, hl⟩
    · exact .inl h4.1
    · subst hf
      exact .inr ⟨b, 0, hA, hP b (List.mem_cons_self ..), RepLF.toP l b 0 fs hl (fun q hq => hP q (List.mem_cons_of_mem _ hq))⟩
theorem RepLF.toP {w : World} {P : Nat → Prop} : ∀ (l : List Tm) (b off : Nat) (fs : List Nat), RepLF w l b off fs → (∀ b ∈ fs, P b) → RepLP w P l b off
  | [], _, _, _, _, _ => by rw [RepLP]; trivial
  | t :: r, b, off, fs, h, hP => by
    rw [RepLF] at h; rw [RepLP]
    obtain ⟨A, cap, f1, f2, h0, h1, h2, h3, h4, hf, hr⟩ := h
    subst hf
    exact ⟨⟨A, cap, h0, h1, h2, h3, RepF.toP t A cap f1 h4 (fun q hq => hP q (List.mem_append_left _ hq))⟩, RepLF.toP r b (off + 4) f2 hr (fun q hq => hP q (List.mem_append_right _ hq))⟩
end

mutual
/-- The skeleton of a term in memory from block B on: where its slices lie, whatever names and kinds are there. -/
def Sk (w : World) (B : Nat) : Tm → Option Addr → Prop
  | .mk _ _ _ l, A => l = [] ∨ ∃ b, A = some ⟨b, 0, none⟩ ∧ B ≤ b ∧ b < w.heap.size ∧ (∀ o, w.frozen? ⟨b, o, none⟩ = false) ∧ SkL w B l b 0
def SkL (w : World) (B : Nat) : List Tm → Nat → Nat → Prop
  | [], _, _ => True
  | t :: r, b, off => (∃ A cap x y z, w.cell? ⟨b, off, none⟩ = some (.int .i64 x) ∧ w.cell? ⟨b, off + 1, none⟩ = some (.string y) ∧
      w.cell? ⟨b, off + 2, none⟩ = some (.int .i64 z) ∧ w.cell? ⟨b, off + 3, none⟩ = some (.slice A t.kids.length cap) ∧ Sk w B t A) ∧ SkL w B r b (off + 4)
end
theorem Sk_mk {w : World} {B : Nat} {k s : Int} {n : ByteArray} {l : List Tm} {A : Option Addr} : Sk w B (.mk k n s l) A =
    (l = [] ∨ ∃ b, A = some ⟨b, 0, none⟩ ∧ B ≤ b ∧ b < w.heap.size ∧ (∀ o, w.frozen? ⟨b, o, none⟩ = false) ∧ SkL w B l b 0) := by rw [Sk]
/-- What keeps skeletons: only first and second cells of terms turn, and keep their kinds. -/
structure Spl (B : Nat) (w w' : World) : Prop where
  below : Below B w w'
  size : w.heap.size ≤ w'.heap.size
  cold : ∀ b, B ≤ b → b < w.heap.size → ∀ o, w'.frozen? ⟨b, o, none⟩ = w.frozen? ⟨b, o, none⟩
  rest : ∀ b o, B ≤ b → b < w.heap.size → 2 ≤ o % 4 → w'.cell? ⟨b, o, none⟩ = w.cell? ⟨b, o, none⟩
  kind : ∀ b o x, B ≤ b → b < w.heap.size → o % 4 = 0 → w.cell? ⟨b, o, none⟩ = some (.int .i64 x) → ∃ x', w'.cell? ⟨b, o, none⟩ = some (.int .i64 x')
  name : ∀ b o y, B ≤ b → b < w.heap.size → o % 4 = 1 → w.cell? ⟨b, o, none⟩ = some (.string y) → ∃ y', w'.cell? ⟨b, o, none⟩ = some (.string y')
theorem Spl.of_below {B : Nat} {w w' : World} (h : Below w.heap.size w w') (hB : B ≤ w.heap.size) : Spl B w w' :=
  ⟨h.mono hB, h.size, fun _ _ hb o => h.frozen (p := ⟨_, o, none⟩) hb, fun _ o _ hb _ => h.cell (p := ⟨_, o, none⟩) hb, fun _ o x _ hb _ hc => ⟨x, by rw [h.cell (p := ⟨_, o, none⟩) hb]; exact hc⟩, fun _ o y _ hb _ hc => ⟨y, by rw [h.cell (p := ⟨_, o, none⟩) hb]; exact hc⟩⟩
theorem Spl.refl (B : Nat) (w : World) : Spl B w w := ⟨Below.refl _ _, Nat.le_refl _, fun _ _ _ _ => rfl, fun _ _ _ _ _ => rfl, fun _ _ x _ _ _ h => ⟨x, h⟩, fun _ _ y _ _ _ h => ⟨y, h⟩⟩
theorem Spl.trans {B : Nat} {a b c : World} (h : Spl B a b) (k : Spl B b c) : Spl B a c := by
  have hs := h.size
  refine ⟨h.below.trans k.below, Nat.le_trans h.size k.size, fun x h1 h2 o => (k.cold x h1 (by omega) o).trans (h.cold x h1 h2 o), fun x o h1 h2 h3 => (k.rest x o h1 (by omega) h3).trans (h.rest x o h1 h2 h3), fun x o v h1 h2 h3 h4 => ?_, fun x o v h1 h2 h3 h4 => ?_⟩
  · obtain ⟨v', h5⟩ := h.kind x o v h1 h2 h3 h4
    exact k.kind x o v' h1 (by omega) h3 h5
  · obtain ⟨v', h5⟩ := h.name x o v h1 h2 h3 h4
    exact k.name x o v' h1 (by omega) h3 h5
mutual
theorem Sk.spl {w w' : World} {B : Nat} (hs : Spl B w w') : ∀ (t : Tm) (A : Option Addr), Sk w B t A → Sk w' B t A
  | .mk _ _ _ l, A, h => by
    rw [Sk] at h ⊢
    rcases h with h | ⟨b, hA, h1, h2, hz, hl⟩
    · exact .inl h
    · exact .inr ⟨b, hA, h1, Nat.lt_of_lt_of_le h2 hs.size, fun o => by rw [hs.cold b h1 h2]; exact hz o, SkL.spl hs l b 0 h1 h2 rfl hl⟩
theorem SkL.spl {w w' : World} {B : Nat} (hs : Spl B w w') : ∀ (l : List Tm) (b off : Nat), B ≤ b → b < w.heap.size → off % 4 = 0 → SkL w B l b off → SkL w' B l b off
  | [], _, _, _, _, _, _ => by rw [SkL]; trivial
  | t :: r, b, off, h1, h2, h4, h => by
    rw [SkL] at h ⊢
    obtain ⟨⟨A, cap, x, y, z, c0, c1, c2, c3, hk⟩, hr⟩ := h
    obtain ⟨x', c0'⟩ := hs.kind b off x h1 h2 h4 c0
    obtain ⟨y', c1'⟩ := hs.name b (off + 1) y h1 h2 (by omega) c1
    exact ⟨⟨A, cap, x', y', z, c0', c1', by rw [hs.rest b (off + 2) h1 h2 (by omega)]; exact c2, by rw [hs.rest b (off + 3) h1 h2 (by omega)]; exact c3, Sk.spl hs t A hk⟩, SkL.spl hs r b (off + 4) h1 h2 (by omega) hr⟩
end
mutual
theorem RepF.toS {w : World} {B : Nat} : ∀ (t : Tm) (A : Option Addr) (cap : Nat) (fp : List Nat), RepF w t A cap fp → (∀ b ∈ fp, B ≤ b ∧ b < w.heap.size) → Sk w B t A
  | .mk _ n _ l, A, cap, fp, h, hP => by
    rw [RepF] at h; rw [Sk]
    obtain ⟨-, -, -, h4⟩ := h
    rcases h4 with h4 | ⟨b, fs, hA, hf, hz, hl⟩
    · exact .inl h4.1
    · subst hf
      have := hP b (List.mem_cons_self ..)
      exact .inr ⟨b, hA, this.1, this.2, hz, RepLF.toS l b 0 fs hl (fun q hq => hP q (List.mem_cons_of_mem _ hq))⟩
theorem RepLF.toS {w : World} {B : Nat} : ∀ (l : List Tm) (b off : Nat) (fs : List Nat), RepLF w l b off fs → (∀ b ∈ fs, B ≤ b ∧ b < w.heap.size) → SkL w B l b off
  | [], _, _, _, _, _ => by rw [SkL]; trivial
  | t :: r, b, off, fs, h, hP => by
    rw [RepLF] at h; rw [SkL]
    obtain ⟨A, cap, f1, f2, h0, h1, h2, h3, h4, hf, hr⟩ := h
    subst hf
    exact ⟨⟨A, cap, _, _, _, h0, h1, h2, h3, RepF.toS t A cap f1 h4 (fun q hq => hP q (List.mem_append_left _ hq))⟩, RepLF.toS r b (off + 4) f2 hr (fun q hq => hP q (List.mem_append_right _ hq))⟩
end

mutual
theorem Sk.keep {w w' : World} {B B' : Nat} (hs : w.heap.size ≤ w'.heap.size) (hB : B' ≤ B) (hc : ∀ b, B ≤ b → b < w.heap.size → w'.heap[b]? = w.heap[b]?) : ∀ (t : Tm) (A : Option Addr), Sk w B t A → Sk w' B' t A
  | .mk _ _ _ l, A, h => by
    rw [Sk] at h ⊢
    rcases h with h | ⟨b, hA, h1, h2, hz, hl⟩
    · exact .inl h
    · exact .inr ⟨b, hA, Nat.le_trans hB h1, Nat.lt_of_lt_of_le h2 hs, fun o => by rw [World.frozen?_of_block (a := ⟨b, o, none⟩) (hc b h1 h2)]; exact hz o, SkL.keep hs hB hc l b 0 h1 h2 hl⟩
theorem SkL.keep {w w' : World} {B B' : Nat} (hs : w.heap.size ≤ w'.heap.size) (hB : B' ≤ B) (hc : ∀ b, B ≤ b → b < w.heap.size → w'.heap[b]? = w.heap[b]?) : ∀ (l : List Tm) (b off : Nat), B ≤ b → b < w.heap.size → SkL w B l b off → SkL w' B' l b off
  | [], _, _, _, _, _ => by rw [SkL]; trivial
  | t :: r, b, off, h1, h2, h => by
    rw [SkL] at h ⊢
    obtain ⟨⟨A, cap, x, y, z, c0, c1, c2, c3, hk⟩, hr⟩ := h
    have e : ∀ o, w'.cell? ⟨b, o, none⟩ = w.cell? ⟨b, o, none⟩ := fun o => World.cell?_of_block (a := ⟨b, o, none⟩) (hc b h1 h2)
    exact ⟨⟨A, cap, x, y, z, by rw [e]; exact c0, by rw [e]; exact c1, by rw [e]; exact c2, by rw [e]; exact c3, Sk.keep hs hB hc t A hk⟩, SkL.keep hs hB hc r b (off + 4) h1 h2 hr⟩
end

/-- A term in four cells. -/
def LocF (w : World) (t : Tm) (b off : Nat) (fp : List Nat) : Prop := ∃ A cap, w.cell? ⟨b, off, none⟩ = some (.int .i64 t.kind) ∧ w.cell? ⟨b, off + 1, none⟩ = some (.string t.name) ∧
  w.cell? ⟨b, off + 2, none⟩ = some (.int .i64 t.sort) ∧ w.cell? ⟨b, off + 3, none⟩ = some (.slice A t.kids.length cap) ∧ RepF w t A cap fp
def LocP (w : World) (P : Nat → Prop) (t : Tm) (b off : Nat) : Prop := ∃ A cap, w.cell? ⟨b, off, none⟩ = some (.int .i64 t.kind) ∧ w.cell? ⟨b, off + 1, none⟩ = some (.string t.name) ∧
  w.cell? ⟨b, off + 2, none⟩ = some (.int .i64 t.sort) ∧ w.cell? ⟨b, off + 3, none⟩ = some (.slice A t.kids.length cap) ∧ RepP w P t A cap
def LocS (w : World) (B : Nat) (t : Tm) (b off : Nat) : Prop := ∃ A cap x y z, w.cell? ⟨b, off, none⟩ = some (.int .i64 x) ∧ w.cell? ⟨b, off + 1, none⟩ = some (.string y) ∧
  w.cell? ⟨b, off + 2, none⟩ = some (.int .i64 z) ∧ w.cell? ⟨b, off + 3, none⟩ = some (.slice A t.kids.length cap) ∧ Sk w B t A
theorem SkL_cons {w : World} {B : Nat} {t : Tm} {r : List Tm} {b off : Nat} : SkL w B (t :: r) b off ↔ LocS w B t b off ∧ SkL w B r b (off + 4) := by
  rw [SkL]; rfl
theorem RepLF_cons {w : World} {t : Tm} {r : List Tm} {b off : Nat} {fs : List Nat} : RepLF w (t :: r) b off fs ↔ ∃ f1 f2, LocF w t b off f1 ∧ fs = f1 ++ f2 ∧ RepLF w r b (off + 4) f2 := by
  rw [RepLF]
  constructor
  · rintro ⟨A, cap, f1, f2, h0, h1, h2, h3, h4, h5, h6⟩
    exact ⟨f1, f2, ⟨A, cap, h0, h1, h2, h3, h4⟩, h5, h6⟩
  · rintro ⟨f1, f2, ⟨A, cap, h0, h1, h2, h3, h4⟩, h5, h6⟩
    exact ⟨A, cap, f1, f2, h0, h1, h2, h3, h4, h5, h6⟩
theorem RepLP_cons {w : World} {P : Nat → Prop} {t : Tm} {r : List Tm} {b off : Nat} : RepLP w P (t :: r) b off ↔ LocP w P t b off ∧ RepLP w P r b (off + 4) := by
  rw [RepLP]; rfl

/-- But for four cells and some blocks nothing has turned. -/
def Agree (w w' : World) (b : Nat) (fp : List Nat) (b' off' : Nat) (f' : List Nat) : Prop :=
  ∀ q : Addr, (q.block = b ∨ q.block ∈ fp) → ¬ (q.block = b' ∧ off' ≤ q.off ∧ q.off < off' + 4) → q.block ∉ f' → w'.cell? q = w.cell? q

/-- one kid of a slice of kids -/
theorem RepLF.split {w : World} : ∀ (l : List Tm) (b off : Nat) (fs : List Nat) (j : Nat) (hj : j < l.length), RepLF w l b off fs → fs.Nodup → b ∉ fs →
    ∃ f', LocF w l[j] b (off + j * 4) f' ∧ (∀ x ∈ f', x ∈ fs) ∧ f'.Nodup ∧
      (∀ (P : Nat → Prop) (w' : World) (u : Tm) (b' off' : Nat) (f'' : List Nat), (∀ x ∈ fs, P x) → (b' = b ∧ off' = off + j * 4 ∨ b' ∈ f') → (∀ x ∈ f'', x ∈ f') → Agree w w' b fs b' off' f'' → LocP w' P u b (off + j * 4) → RepLP w' P (l.set j u) b off) ∧
      ∀ (B : Nat) (w' : World) (u : Tm) (b' off' : Nat) (f'' : List Nat), (∀ x ∈ fs, B ≤ x ∧ x < w'.heap.size) → (∀ q : Addr, q.block ∈ fs → w'.frozen? q = w.frozen? q) → (b' = b ∧ off' = off + j * 4 ∨ b' ∈ f') → (∀ x ∈ f'', x ∈ f') → Agree w w' b fs b' off' f'' → LocS w' B u b (off + j * 4) → SkL w' B (l.set j u) b off
  | [], _, _, _, _, hj, _, _, _ => by simp at hj
  | t :: r, b, off, fs, j, hj, h, hn, hb => by
    rw [RepLF_cons] at h
    obtain ⟨f1, f2, hl, rfl, hr⟩ := h
    rw [List.nodup_append] at hn
    obtain ⟨hn1, hn2, hdis⟩ := hn
    have hb1 : b ∉ f1 := fun h => hb (List.mem_append_left _ h)
    have hb2 : b ∉ f2 := fun h => hb (List.mem_append_right _ h)
    cases j with
    | zero =>
      refine ⟨f1, by simpa using hl, fun x hx => List.mem_append_left _ hx, hn1, ?_, ?_⟩
      · intro P w' u b' off' f'' hP hbo hf hag hu
        rw [List.set_cons_zero, RepLP_cons]
        refine ⟨by simpa using hu, ?_⟩
        have hcell : ∀ q : Addr, (q.block = b ∧ off + 4 ≤ q.off ∨ q.block ∈ f2) → w'.cell? q = w.cell? q := fun q hq => by
          refine hag q ?_ ?_ ?_
          · rcases hq with ⟨h, _⟩ | h
            · exact .inl h
            · exact .inr (List.mem_append_right _ h)
          · rintro ⟨h1, h2, h3⟩
            rcases hq with ⟨h, h4⟩ | h
            · rcases hbo with ⟨h5, h6⟩ | h5
              · omega
              · rw [← h1, h] at h5; exact hb1 h5
            · rcases hbo with ⟨h5, h6⟩ | h5
              · rw [h1, h5] at h; exact hb2 h
              · rw [h1] at h; exact hdis _ h5 _ h rfl
          · intro h1
            have h1' := hf _ h1
            rcases hq with ⟨h, _⟩ | h
            · rw [h] at h1'; exact hb1 h1'
            · exact hdis _ h1' _ h rfl
        have key : ∀ (l : List Tm) (o : Nat) (g : List Nat), off + 4 ≤ o → (∀ x ∈ g, x ∈ f2) → RepLF w l b o g → RepLP w' P l b o := by
          intro l
          induction l with
          | nil => intro o g _ _ _; rw [RepLP]; trivial
          | cons t r ih =>
            intro o g ho hg h
            rw [RepLF_cons] at h
            obtain ⟨g1, g2, ⟨A, cap, h0, h1, h2, h3, h4⟩, rfl, h5⟩ := h
            rw [RepLP_cons]
            refine ⟨⟨A, cap, ?_, ?_, ?_, ?_, ?_⟩, ih (o + 4) g2 (by omega) (fun x hx => hg x (List.mem_append_right _ hx)) h5⟩
            · rw [hcell _ (.inl ⟨rfl, ho⟩)]; exact h0
            · rw [hcell _ (.inl ⟨rfl, by show off + 4 ≤ o + 1; omega⟩)]; exact h1
            · rw [hcell _ (.inl ⟨rfl, by show off + 4 ≤ o + 2; omega⟩)]; exact h2
            · rw [hcell _ (.inl ⟨rfl, by show off + 4 ≤ o + 3; omega⟩)]; exact h3
            · refine RepP.mono (P := fun x => x ∈ f2) (fun x hx => hP x (List.mem_append_right _ hx)) (fun q hq => hcell q (.inr hq)) _ _ _ (RepF.toP _ _ _ _ h4 (fun x hx => hg x (List.mem_append_left _ hx)))
        exact key r (off + 4) f2 (Nat.le_refl _) (fun _ h => h) hr
      · intro B w' u b' off' f'' hP hfz hbo hf hag hu
        rw [List.set_cons_zero, SkL_cons]
        refine ⟨by simpa using hu, ?_⟩
        have hcell : ∀ q : Addr, (q.block = b ∧ off + 4 ≤ q.off ∨ q.block ∈ f2) → w'.cell? q = w.cell? q := fun q hq => by
          refine hag q ?_ ?_ ?_
          · rcases hq with ⟨h, _⟩ | h
            · exact .inl h
            · exact .inr (List.mem_append_right _ h)
          · rintro ⟨h1, h2, h3⟩
            rcases hq with ⟨h, h4⟩ | h
            · rcases hbo with ⟨h5, h6⟩ | h5
              · omega
              · rw [← h1, h] at h5; exact hb1 h5
            · rcases hbo with ⟨h5, h6⟩ | h5
              · rw [h1, h5] at h; exact hb2 h
              · rw [h1] at h; exact hdis _ h5 _ h rfl
          · intro h1
            have h1' := hf _ h1
            rcases hq with ⟨h, _⟩ | h
            · rw [h] at h1'; exact hb1 h1'
            · exact hdis _ h1' _ h rfl
        have key : ∀ (l : List Tm) (o : Nat) (g : List Nat), off + 4 ≤ o → (∀ x ∈ g, x ∈ f2) → RepLF w l b o g → SkL w' B l b o := by
          intro l
          induction l with
          | nil => intro o g _ _ _; rw [SkL]; trivial
          | cons t r ih =>
            intro o g ho hg h
            rw [RepLF_cons] at h
            obtain ⟨g1, g2, ⟨A, cap, h0, h1, h2, h3, h4⟩, rfl, h5⟩ := h
            rw [SkL_cons]
            refine ⟨⟨A, cap, t.kind, t.name, t.sort, ?_, ?_, ?_, ?_, ?_⟩, ih (o + 4) g2 (by omega) (fun x hx => hg x (List.mem_append_right _ hx)) h5⟩
            · rw [hcell _ (.inl ⟨rfl, ho⟩)]; exact h0
            · rw [hcell _ (.inl ⟨rfl, by show off + 4 ≤ o + 1; omega⟩)]; exact h1
            · rw [hcell _ (.inl ⟨rfl, by show off + 4 ≤ o + 2; omega⟩)]; exact h2
            · rw [hcell _ (.inl ⟨rfl, by show off + 4 ≤ o + 3; omega⟩)]; exact h3
            · exact RepF.toS _ _ _ _ (RepF.mono _ _ _ _ h4 (fun q hq => ⟨hcell q (.inr (hg _ (List.mem_append_left _ hq))), hfz q (List.mem_append_right _ (hg _ (List.mem_append_left _ hq)))⟩)) (fun x hx => hP x (List.mem_append_right _ (hg x (List.mem_append_left _ hx))))
        exact key r (off + 4) f2 (Nat.le_refl _) (fun _ h => h) hr
    | succ j =>
      obtain ⟨f', hlj, hsub, hnd, hfill, hfillS⟩ := RepLF.split r b (off + 4) f2 j (by simpa using hj) hr hn2 hb2
      have e : off + (j + 1) * 4 = off + 4 + j * 4 := by omega
      refine ⟨f', by simpa [e] using hlj, fun x hx => List.mem_append_right _ (hsub x hx), hnd, ?_, ?_⟩
      · intro P w' u b' off' f'' hP hbo hf hag hu
        rw [List.set_cons_succ, RepLP_cons]
        rw [e] at hbo hu
        refine ⟨?_, hfill P w' u b' off' f'' (fun x hx => hP x (List.mem_append_right _ hx)) hbo hf (fun q hq h1 h2 => hag q (hq.imp id (List.mem_append_right _)) h1 h2) hu⟩
        have hcell : ∀ q : Addr, (q.block = b ∧ q.off < off + 4 ∨ q.block ∈ f1) → w'.cell? q = w.cell? q := fun q hq => by
          refine hag q ?_ ?_ ?_
          · rcases hq with ⟨h, _⟩ | h
            · exact .inl h
            · exact .inr (List.mem_append_left _ h)
          · rintro ⟨h1, h2, h3⟩
            rcases hq with ⟨h, h4⟩ | h
            · rcases hbo with ⟨h5, h6⟩ | h5
              · omega
              · rw [← h1, h] at h5; exact hb2 (hsub _ h5)
            · rcases hbo with ⟨h5, h6⟩ | h5
              · rw [h1, h5] at h; exact hb1 h
              · rw [h1] at h; exact hdis _ h _ (hsub _ h5) rfl
          · intro h1
            have h1' := hsub _ (hf _ h1)
            rcases hq with ⟨h, _⟩ | h
            · rw [h] at h1'; exact hb2 h1'
            · exact hdis _ h _ h1' rfl
        obtain ⟨A, cap, h0, h1, h2, h3, h4⟩ := hl
        refine ⟨A, cap, ?_, ?_, ?_, ?_, ?_⟩
        · rw [hcell _ (.inl ⟨rfl, by show off < off + 4; omega⟩)]; exact h0
        · rw [hcell _ (.inl ⟨rfl, by show off + 1 < off + 4; omega⟩)]; exact h1
        · rw [hcell _ (.inl ⟨rfl, by show off + 2 < off + 4; omega⟩)]; exact h2
        · rw [hcell _ (.inl ⟨rfl, by show off + 3 < off + 4; omega⟩)]; exact h3
        · exact RepP.mono (P := fun x => x ∈ f1) (fun x hx => hP x (List.mem_append_left _ hx)) (fun q hq => hcell q (.inr hq)) _ _ _ (RepF.toP _ _ _ _ h4 (fun _ h => h))
      · intro B w' u b' off' f'' hP hfz hbo hf hag hu
        rw [List.set_cons_succ, SkL_cons]
        rw [e] at hbo hu
        refine ⟨?_, hfillS B w' u b' off' f'' (fun x hx => hP x (List.mem_append_right _ hx)) (fun q hq => hfz q (List.mem_append_right _ hq)) hbo hf (fun q hq h1 h2 => hag q (hq.imp id (List.mem_append_right _)) h1 h2) hu⟩
        have hcell : ∀ q : Addr, (q.block = b ∧ q.off < off + 4 ∨ q.block ∈ f1) → w'.cell? q = w.cell? q := fun q hq => by
          refine hag q ?_ ?_ ?_
          · rcases hq with ⟨h, _⟩ | h
            · exact .inl h
            · exact .inr (List.mem_append_left _ h)
          · rintro ⟨h1, h2, h3⟩
            rcases hq with ⟨h, h4⟩ | h
            · rcases hbo with ⟨h5, h6⟩ | h5
              · omega
              · rw [← h1, h] at h5; exact hb2 (hsub _ h5)
            · rcases hbo with ⟨h5, h6⟩ | h5
              · rw [h1, h5] at h; exact hb1 h
              · rw [h1] at h; exact hdis _ h _ (hsub _ h5) rfl
          · intro h1
            have h1' := hsub _ (hf _ h1)
            rcases hq with ⟨h, _⟩ | h
            · rw [h] at h1'; exact hb2 h1'
            · exact hdis _ h _ h1' rfl
        obtain ⟨A, cap, h0, h1, h2, h3, h4⟩ := hl
        refine ⟨A, cap, t.kind, t.name, t.sort, ?_, ?_, ?_, ?_, ?_⟩
        · rw [hcell _ (.inl ⟨rfl, by show off < off + 4; omega⟩)]; exact h0
        · rw [hcell _ (.inl ⟨rfl, by show off + 1 < off + 4; omega⟩)]; exact h1
        · rw [hcell _ (.inl ⟨rfl, by show off + 2 < off + 4; omega⟩)]; exact h2
        · rw [hcell _ (.inl ⟨rfl, by show off + 3 < off + 4; omega⟩)]; exact h3
        · exact RepF.toS _ _ _ _ (RepF.mono _ _ _ _ h4 (fun q hq => ⟨hcell q (.inr hq), hfz q (List.mem_append_left _ hq)⟩)) (fun x hx => hP x (List.mem_append_left _ hx))

/-- the term with another one at a position -/
def Tm.putP : List Int → Tm → Tm → Tm
  | [], _, u => u
  | i :: r, t, u => match t.kid i with
    | some k => .mk t.kind t.name t.sort (t.kids.set i.toNat (Tm.putP r k u))
    | none => t
theorem Tm.atP_append : ∀ (p q : List Int) (t : Tm), Tm.atP (p ++ q) t = match Tm.atP p t with
    | some v => Tm.atP q v
    | none => none
  | [], q, t => rfl
  | i :: p, q, t => by
    rw [List.cons_append, Tm.atP, Tm.atP]
    cases t.kid i with
    | none => rfl
    | some k => exact Tm.atP_append p q k
theorem Tm.putP_snoc : ∀ (p : List Int) (i : Int) (t v k u : Tm), Tm.atP p t = some v → v.kid i = some k → Tm.putP (p ++ [i]) t u = Tm.putP p t (.mk v.kind v.name v.sort (v.kids.set i.toNat u))
  | [], i, t, v, k, u, h, hk => by
    rw [Tm.atP, Option.some.injEq] at h
    subst h
    simp only [List.nil_append, Tm.putP, hk]
  | j :: p, i, t, v, k, u, h, hk => by
    rw [List.cons_append, Tm.putP, Tm.putP]
    rw [Tm.atP] at h
    cases hj : t.kid j with
    | none => simp [hj] at h
    | some k' =>
      rw [hj] at h
      simp only
      rw [Tm.putP_snoc p i k' v k u h hk]
theorem Tm.kid_lt {t k : Tm} {i : Int} (h : t.kid i = some k) : 0 ≤ i ∧ ∃ hl : i.toNat < t.kids.length, t.kids[i.toNat] = k := by
  unfold Tm.kid at h
  split at h
  · rename_i h0
    obtain ⟨hl, he⟩ := List.getElem?_eq_some_iff.1 h
    exact ⟨h0, hl, he⟩
  · cases h

/-- Where a position of a term leads to, and what stands there when the place is written anew. -/
structure Desc (w : World) (t : Tm) (b off : Nat) (fp : List Nat) (p : List Int) (v : Tm) (b' off' : Nat) (f' : List Nat) : Prop where
  at_ : Tm.atP p t = some v
  loc : LocF w v b' off' f'
  nin : b' ∉ f'
  nod : f'.Nodup
  own : b' = b ∨ b' ∈ fp
  sub : ∀ x ∈ f', x ∈ fp
  cold : ∀ o, w.frozen? ⟨b', o, none⟩ = false
  fill : ∀ (P : Nat → Prop) (w' : World) (u : Tm), (∀ x ∈ fp, P x) → Agree w w' b fp b' off' f' → LocP w' P u b' off' → LocP w' P (Tm.putP p t u) b off
  fillS : ∀ (B : Nat) (w' : World) (u : Tm), (∀ x ∈ fp, B ≤ x ∧ x < w'.heap.size) → (∀ q : Addr, q.block ∈ fp → w'.frozen? q = w.frozen? q) → Agree w w' b fp b' off' f' → LocS w' B u b' off' → LocS w' B (Tm.putP p t u) b off
theorem Desc.start {w : World} {t : Tm} {b off : Nat} {fp : List Nat} (h : LocF w t b off fp) (hb : b ∉ fp) (hn : fp.Nodup) (hz : ∀ o, w.frozen? ⟨b, o, none⟩ = false) : Desc w t b off fp [] t b off fp :=
  ⟨rfl, h, hb, hn, .inl rfl, fun _ h => h, hz, fun _ _ _ _ _ h => h, fun _ _ _ _ _ _ h => h⟩
theorem Desc.step {w : World} {t : Tm} {b off : Nat} {fp : List Nat} {p : List Int} {v : Tm} {b' off' : Nat} {f' : List Nat} (h : Desc w t b off fp p v b' off' f') {i : Int} {k : Tm} (hk : v.kid i = some k) :
    ∃ bk ok c f'', w.cell? ⟨b', off' + 3, none⟩ = some (.slice (some ⟨bk, ok, none⟩) v.kids.length c) ∧ Desc w t b off fp (p ++ [i]) k bk (ok + i.toNat * 4) f'' := by
  obtain ⟨hat, ⟨A, cap, l0, l1, l2, l3, lr⟩, hnin, hnod, hown, hsub, -, hfill, hfillS⟩ := h
  obtain ⟨hi0, hil, hik⟩ := Tm.kid_lt hk
  have hput := fun u => Tm.putP_snoc p i t v k u hat hk
  obtain ⟨vk, vn, vs, l⟩ := v
  simp only [Tm.kind, Tm.name, Tm.sort, Tm.kids] at l0 l1 l2 l3 hil hik hput
  rw [RepF_mk] at lr
  obtain ⟨r1, r2, r3, r4⟩ := lr
  rcases r4 with ⟨rfl, -⟩ | ⟨bk, fs, rfl, rfl, hz, hl⟩
  · simp at hil
  obtain ⟨ok, hok⟩ : ∃ ok : Nat, ok = 0 := ⟨_, rfl⟩
  rw [← hok] at l3 hl
  rw [List.nodup_cons] at hnod
  obtain ⟨hbk, hnfs⟩ := hnod
  obtain ⟨f'', hlk, hs, hnd, hf, hfS⟩ := RepLF.split l bk ok fs i.toNat hil hl hnfs hbk
  rw [hik] at hlk
  have hbb : b' ≠ bk := fun e => hnin (by rw [e]; exact List.mem_cons_self ..)
  refine ⟨bk, ok, cap, f'', l3, ?_, hlk, fun hx => hbk (hs _ hx), hnd, .inr (hsub _ (List.mem_cons_self ..)), fun x hx => hsub x (List.mem_cons_of_mem _ (hs x hx)), hz, fun P w' u hall hag hu => ?_, fun B w' u hall hfz hag hu => ?_⟩
  · rw [Tm.atP_append, hat]
    simp only [Tm.atP, hk]
  · rw [hput u]
    have hc : ∀ o, w'.cell? ⟨b', o, none⟩ = w.cell? ⟨b', o, none⟩ := fun o => hag _ hown (fun ⟨e, _⟩ => hbb e) (fun hx => hnin (List.mem_cons_of_mem _ (hs _ hx)))
    refine hfill P w' _ hall (fun q hq hne hnf => hag q hq (fun ⟨e, _⟩ => hnf (by rw [e]; exact List.mem_cons_self ..)) (fun hx => hnf (List.mem_cons_of_mem _ (hs _ hx)))) ?_
    refine ⟨some ⟨bk, ok, none⟩, cap, by rw [hc]; exact l0, by rw [hc]; exact l1, by rw [hc]; exact l2, by rw [hc, l3]; simp [Tm.kids], ?_⟩
    rw [RepP_mk]
    refine ⟨r1, by simpa using r2, r3, .inr ⟨bk, ok, rfl, hall _ (hsub _ (List.mem_cons_self ..)), ?_⟩⟩
    refine hf P w' u bk (ok + i.toNat * 4) f'' (fun x hx => hall _ (hsub _ (List.mem_cons_of_mem _ hx))) (.inl ⟨rfl, rfl⟩) (fun _ h => h) (fun q hq h1 h2 => hag q ?_ h1 h2) hu
    rcases hq with hq | hq
    · exact .inr (by rw [hq]; exact hsub _ (List.mem_cons_self ..))
    · exact .inr (hsub _ (List.mem_cons_of_mem _ hq))
  · rw [hput u]
    have hc : ∀ o, w'.cell? ⟨b', o, none⟩ = w.cell? ⟨b', o, none⟩ := fun o => hag _ hown (fun ⟨e, _⟩ => hbb e) (fun hx => hnin (List.mem_cons_of_mem _ (hs _ hx)))
    refine hfillS B w' _ hall hfz (fun q hq hne hnf => hag q hq (fun ⟨e, _⟩ => hnf (by rw [e]; exact List.mem_cons_self ..)) (fun hx => hnf (List.mem_cons_of_mem _ (hs _ hx)))) ?_
    have hbkf := hsub _ (List.mem_cons_self (a := bk) (l := fs))
    refine ⟨some ⟨bk, ok, none⟩, cap, _, _, _, by rw [hc]; exact l0, by rw [hc]; exact l1, by rw [hc]; exact l2, by rw [hc, l3]; simp [Tm.kids], ?_⟩
    rw [Sk_mk]
    refine .inr ⟨bk, by rw [hok], (hall _ hbkf).1, (hall _ hbkf).2, fun o => by rw [hfz ⟨bk, o, none⟩ hbkf]; exact hz o, ?_⟩
    rw [← hok]
    refine hfS B w' u bk (ok + i.toNat * 4) f'' (fun x hx => hall _ (hsub _ (List.mem_cons_of_mem _ hx))) (fun q hq => hfz q (hsub _ (List.mem_cons_of_mem _ hq))) (.inl ⟨rfl, rfl⟩) (fun _ h => h) (fun q hq h1 h2 => hag q ?_ h1 h2) hu
    rcases hq with hq | hq
    · exact .inr (by rw [hq]; exact hbkf)
    · exact .inr (hsub _ (List.mem_cons_of_mem _ hq))

/-- The terms of a row, each with its footprint. -/
def FpIts (w : World) : List It → List Nat → Prop
  | [], fs => fs = []
  | x :: r, fs => ∃ f1 f2, RepF w x.1 x.2.1 x.2.2 f1 ∧ fs = f1 ++ f2 ∧ FpIts w r f2
theorem FpIts.mono {w w' : World} : ∀ {its : List It} {fs : List Nat}, FpIts w its fs → (∀ q : Addr, q.block ∈ fs → w'.cell? q = w.cell? q ∧ w'.frozen? q = w.frozen? q) → FpIts w' its fs
  | [], _, h, _ => h
  | x :: r, _, ⟨f1, f2, h1, h2, h3⟩, hc => by
    subst h2
    exact ⟨f1, f2, RepF.mono _ _ _ _ h1 (fun q hq => hc q (List.mem_append_left _ hq)), rfl, h3.mono (fun q hq => hc q (List.mem_append_right _ hq))⟩
theorem FpIts.snoc {w : World} : ∀ {its : List It} {fs : List Nat} {X : It} {f : List Nat}, FpIts w its fs → RepF w X.1 X.2.1 X.2.2 f → FpIts w (its ++ [X]) (fs ++ f)
  | [], _, X, f, h, hX => by
    rw [FpIts] at h; subst h
    exact ⟨f, [], hX, by simp, rfl⟩
  | x :: r, _, X, f, ⟨f1, f2, h1, h2, h3⟩, hX => by
    subst h2
    exact ⟨f1, f2 ++ f, h1, by simp, h3.snoc hX⟩
theorem FpIts.toLF {w : World} : ∀ {its : List It} {fs : List Nat} {b off : Nat}, FpIts w its fs → (∀ j u, (itCells its)[j]? = some u → w.cell? ⟨b, off + j, none⟩ = some u) → RepLF w (its.map (·.1)) b off fs
  | [], _, _, _, h, _ => by rw [List.map_nil, RepLF]; exact h
  | x :: r, _, b, off, ⟨f1, f2, h1, h2, h3⟩, hc => by
    rw [List.map_cons, RepLF]
    refine ⟨x.2.1, x.2.2, f1, f2, hc 0 _ (by simp [itCells, Tm.cells]), hc 1 _ (by simp [itCells, Tm.cells]), hc 2 _ (by simp [itCells, Tm.cells]), hc 3 _ (by simp [itCells, Tm.cells]), h1, h2, ?_⟩
    refine FpIts.toLF h3 (fun j u hj => ?_)
    have := hc (4 + j) u (by simp only [itCells, Tm.cells, List.cons_append, List.nil_append]; rw [get_four]; exact hj)
    rw [show off + 4 + j = off + (4 + j) by omega]; exact this
end Go.Proofs.YtbgkabgbgbebaaaDoor
