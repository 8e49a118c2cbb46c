/- Svalid, Sput, Sapply, Srow, Sbsort, Scomp, Uplain, Uend, Umap, Ugset, Ucomp, Ugen0, Umat0 (joined by shake.py). -/
import Derived.Test.YtpjmdilpldaapaaGreatDoorKGi
import Derived.Test.YtpjmdilpldaapaaGreatDoorSrt
import Derived.Test.YtpjmdilpldaapaaGreatDoorK4
import Derived.Test.YtpjmdilpldaapaaGreatDoorK5
import Derived.Shelf.SlSortCmp.QuietGrown
import Derived.StillTailTactics
import Derived.Shelf.SlSortCmp.NoneTotal
import Derived.Maps.OwnSet
import Derived.DeepKeys4
import Derived.Lib.ItoaNum
set_option maxRecDepth 100000
namespace Go.Proofs.YtpjmdilpldaapaaGreatDoor
open Go.RowKit Go.Sort
def RepB (w : World) (P : Nat → Prop) (l : List Bd) (A : Option Addr) (cap : Nat) : Prop :=
 l.length ≤ cap ∧ cap ≤ maxLen ∧ (l = [] ∨ ∃ b off, A = some ⟨b, off, none⟩ ∧ P b ∧ qao w P (flat l) b off)
theorem RepB.mono {w w' : World} {P P' : Nat → Prop} (hP : ∀ b, P b → P' b) (hc : ∀ p : Addr, P p.block → w'.cell? p = w.cell? p) {l : List Bd} {A : Option Addr} {cap : Nat} (h : RepB w P l A cap) : RepB w' P' l A cap := by
 obtain ⟨h1, h2, h3⟩ := h;refine ⟨h1, h2, ?_⟩;rcases h3 with h3 | ⟨b, off, hA, hb, hl⟩
 ·exact Or.inl h3
 ·exact Or.inr ⟨b, off, hA, hP b hb, qao.mono hP hc _ b off hb hl⟩
theorem RepB.go {w w' : World} {B B' : Nat} {l : List Bd} {A : Option Addr} {cap : Nat} (h : RepB w (fun b => b < B) l A cap) (hb : Below B w w') (hB : B ≤ B') : RepB w' (fun b => b < B') l A cap :=
 h.mono (fun _ h => Nat.lt_of_lt_of_le h hB) (fun _ hp => hb.cell hp)
structure At8 (w : World) (P : Nat → Prop) (b o : Nat) (x : Bd) (A : Option Addr) (c : Nat) (A' : Option Addr) (c' : Nat) : Prop where
 c0 : w.cell? ⟨b, o, none⟩ = some (.int .i64 x.1.kind)
 c1 : w.cell? ⟨b, o + 1, none⟩ = some (.string x.1.name)
 c2 : w.cell? ⟨b, o + 2, none⟩ = some (.int .i64 x.1.sort)
 c3 : w.cell? ⟨b, o + 3, none⟩ = some (.slice A x.1.kids.length c)
 c4 : w.cell? ⟨b, o + 4, none⟩ = some (.int .i64 x.2.kind)
 c5 : w.cell? ⟨b, o + 5, none⟩ = some (.string x.2.name)
 c6 : w.cell? ⟨b, o + 6, none⟩ = some (.int .i64 x.2.sort)
 c7 : w.cell? ⟨b, o + 7, none⟩ = some (.slice A' x.2.kids.length c')
 r1 : RepP w P x.1 A c
 r2 : RepP w P x.2 A' c'
theorem qao.get8 {w : World} {P : Nat → Prop} {l : List Bd} {b off : Nat} (h : qao w P (flat l) b off) (i : Nat) (hi : i < l.length) : ∃ A c A' c', At8 w P b (off + i * 8) l[i] A c A' c' := by
 obtain ⟨f1, f2⟩ := qlr l i hi;have hl := qgw l;obtain ⟨A, c, a0, a1, a2, a3, a4⟩ := h.get (2 * i) (by omega);obtain ⟨A', c', b0, b1, b2, b3, b4⟩ := h.get (2 * i + 1) (by omega);have e1 : (flat l)[2 * i]'(by omega) = l[i].1 := by rw [List.getElem?_eq_getElem (by omega)] at f1; exact Option.some.inj f1
 have e2 : (flat l)[2 * i + 1]'(by omega) = l[i].2 := by rw [List.getElem?_eq_getElem (by omega)] at f2; exact Option.some.inj f2
 rw [e1] at a0 a1 a2 a3 a4;rw [e2] at b0 b1 b2 b3 b4;have o1 : off + 2 * i * 4 = off + i * 8 := by omega
 have o2 : off + (2 * i + 1) * 4 = off + i * 8 + 4 := by omega
 rw [o1] at a0 a1 a2 a3;rw [o2] at b0 b1 b2 b3;exact ⟨A, c, A', c', a0, a1, a2, a3, b0, b1, b2, b3, a4, b4⟩
def SizeB (l : List Bd) : Prop := ∀ b ∈ l, b.1.size ≤ 1000000 ∧ b.2.size ≤ 1000000
theorem Tm.put_app (s : List Bd) (k : Int) (n : ByteArray) (so : Int) (l : List Tm) (h : k ≠ 1) : (Tm.mk k n so l).put s = .mk k n so (Tm.puts s l) := by rw [Tm.put, if_neg h]
theorem Tm.put_var (s : List Bd) (t : Tm) (h : t.kind = 1) : t.put s = getS s t := by
 obtain ⟨k, n, so, l⟩ := t;rw [Tm.put]; exact if_pos h
theorem getS_le {s : List Bd} {m : Nat} (hs : ∀ b ∈ s, b.2.size ≤ m) {x : Tm} (hm : 0 < m) : (getS s x).size ≤ m * x.size := by
 induction s with
 | nil => rw [getS]; exact Nat.le_mul_of_pos_left _ hm
 | cons b r ih =>
  rw [getS]
  split
  ·have h1 := hs b (List.mem_cons_self ..);have h2 := x.size_pos;exact Nat.le_trans h1 (Nat.le_mul_of_pos_right _ h2)
  ·exact ih (fun c hc => hs c (List.mem_cons_of_mem _ hc))
mutual
theorem qf2 {s : List Bd} {m : Nat} (hs : ∀ b ∈ s, b.2.size ≤ m) (hm : 0 < m) : ∀ t : Tm, (t.put s).size ≤ m * t.size
 | .mk k n so l => by
  rw [Tm.put]
  split
  ·exact getS_le hs hm
  ·have := qjb hs hm l;rw [Tm.size, Tm.size, Nat.mul_add];omega
theorem qjb {s : List Bd} {m : Nat} (hs : ∀ b ∈ s, b.2.size ≤ m) (hm : 0 < m) : ∀ l : List Tm, Tm.sizes (Tm.puts s l) ≤ m * Tm.sizes l
 | [] => by simp [Tm.puts, Tm.sizes]
 | t :: r => by
  have h1 := qf2 hs hm t;have h2 := qjb hs hm r;rw [Tm.puts, Tm.sizes, Tm.sizes, Nat.mul_add];omega
end
theorem qah {t : Tm} (h : t.valid = 0) : t.size ≤ 400 := by
 unfold Tm.valid at h
 split at h
 ·rename_i h1; exact absurd h h1
 ·split at h
  ·omega
  ·omega
abbrev IB := It × It
def IB.bd (x : IB) : Bd := (x.1.1, x.2.1)
def bits : List IB → List It
 | [] => []
 | x :: r => x.1 :: x.2 :: bits r
def bCells (l : List IB) : List Value := itCells (bits l)
theorem qkv (a b : List IB) : bits (a ++ b) = bits a ++ bits b := by
 induction a with
 | nil => rfl
 | cons x r ih => simp [bits, ih]
theorem qdp (a : List IB) : (bits a).length = a.length * 2 := by
 induction a with
 | nil => rfl
 | cons x r ih => simp [bits, ih]; omega
theorem qcv (a b : List IB) : bCells (a ++ b) = bCells a ++ bCells b := by unfold bCells; rw [qkv, qbn]
theorem qbc (a : List IB) : (bCells a).length = a.length * 8 := by unfold bCells; rw [qa6, qdp]; omega
theorem qee (a : List IB) : ∀ u ∈ bCells a, u.oneCell' = true := qbo _
theorem qfa (a : List IB) : (bits a).map (·.1) = flat (a.map IB.bd) := by
 induction a with
 | nil => rfl
 | cons x r ih => simp [bits, flat, IB.bd, ih]
theorem qf6 {a : List IB} {y : It} (h : y ∈ bits a) : ∃ x ∈ a, y = x.1 ∨ y = x.2 := by
 induction a with
 | nil => simp [bits] at h
 | cons x r ih =>
  simp only [bits, List.mem_cons] at h;rcases h with h | h | h
  ·exact ⟨x, List.mem_cons_self .., .inl h⟩
  ·exact ⟨x, List.mem_cons_self .., .inr h⟩
  ·obtain ⟨z, hz, e⟩ := ih h;exact ⟨z, List.mem_cons_of_mem _ hz, e⟩
structure RowB (w : World) (base : Nat) (F : Nat → Prop) (v : Value) (its : List IB) : Prop where
 own : w.ownsRow base 48 8 v its.length (bCells its)
 reps : ∀ x ∈ its, RepP w (fun b => F b ∧ b < w.heap.size ∧ v.ownBlock ≠ some b) x.1.1 x.1.2.1 x.1.2.2 ∧ RepP w (fun b => F b ∧ b < w.heap.size ∧ v.ownBlock ≠ some b) x.2.1 x.2.2.1 x.2.2.2
theorem RowB.nil (w : World) (base : Nat) (F : Nat → Prop) : RowB w base F (.slice none 0 0) [] := ⟨World.ownsRow_nil _ _ _ _, by simp⟩
theorem RowB.keep {w w' : World} {base : Nat} {F : Nat → Prop} {v : Value} {its : List IB} (h : RowB w base F v its) (hs : w.heap.size ≤ w'.heap.size)
  (hc : ∀ b, b < w.heap.size → (F b ∨ v.ownBlock = some b) → w'.heap[b]? = w.heap[b]?) : RowB w' base F v its := by
 refine ⟨⟨h.own.1, ?_⟩, fun x hx => ?_⟩
 ·rcases h.own.2 with hn | ⟨g, cap, cur, rfl, hb, hg, r⟩
  ·exact .inl hn
  ·have hlt : g < w.heap.size := (Array.getElem?_eq_some_iff.1 hg).1;exact .inr ⟨g, cap, cur, rfl, hb, by rw [hc g hlt (Or.inr rfl)]; exact hg, r⟩
 ·have key : ∀ (t : Tm) A c, RepP w (fun b => F b ∧ b < w.heap.size ∧ v.ownBlock ≠ some b) t A c → RepP w' (fun b => F b ∧ b < w'.heap.size ∧ v.ownBlock ≠ some b) t A c := fun t A c hr => by
   refine RepP.mono ?_ ?_ _ _ _ hr
   ·rintro b ⟨h1, h2, h3⟩; exact ⟨h1, by omega, h3⟩
   ·rintro p ⟨h1, h2, h3⟩; exact World.cell?_of_block (hc p.block h2 (Or.inl h1))
  exact ⟨key _ _ _ (h.reps x hx).1, key _ _ _ (h.reps x hx).2⟩
theorem RowB.below {w w' : World} {base : Nat} {F : Nat → Prop} {v : Value} {its : List IB} (h : RowB w base F v its) (hb : Below w.heap.size w w') : RowB w' base F v its :=
 h.keep hb.size (fun b hlt _ => hb.block b hlt)
theorem RowB.lt {w : World} {base : Nat} {F : Nat → Prop} {v : Value} {its : List IB} (h : RowB w base F v its) : ∀ k, v.ownBlock = some k → base ≤ k ∧ k < w.heap.size := h.own.lt
theorem RowB.toB {w : World} {base : Nat} {F P : Nat → Prop} {v : Value} {its : List IB} (h : RowB w base F v its) (hF : ∀ b, F b → b < w.heap.size → P b) (hP : ∀ b, base ≤ b → b < w.heap.size → P b) :
  ∃ A cap, v = .slice A its.length cap ∧ RepB w P (its.map IB.bd) A cap := by
 rcases h.own.2 with ⟨rfl, h0⟩ | ⟨g, cap, cur, rfl, hb, hg, hnc, hcm, r⟩
 ·have : its = [] := List.eq_nil_of_length_eq_zero h0;subst this;exact ⟨none, 0, rfl, by simp, by simp [maxLen], .inl rfl⟩
 ·refine ⟨some ⟨g, 0, none⟩, cap, rfl, by simpa using hnc, hcm, .inr ⟨g, 0, rfl, hP g hb (Array.getElem?_eq_some_iff.1 hg).1, ?_⟩⟩;rw [← qfa];refine qao.of_its (bits its) g 0 (fun j u hj => ?_) (fun y hy => ?_)
  ·have := h.own.cells (g := g) rfl j u hj;simpa [Addr.add] using (by
    unfold Addr.add at this
    split at this <;> simp_all)
  ·obtain ⟨x, hx, e⟩ := qf6 hy;rcases e with rfl | rfl
   ·exact RepP.mono (fun b ⟨h1, h2, _⟩ => hF b h1 h2) (fun _ _ => rfl) _ _ _ (h.reps x hx).1
   ·exact RepP.mono (fun b ⟨h1, h2, _⟩ => hF b h1 h2) (fun _ _ => rfl) _ _ _ (h.reps x hx).2
def GoodIB (w : World) (g : Nat) (x : IB) : Prop := RepP w (fun b => b < w.heap.size ∧ b ≠ g) x.1.1 x.1.2.1 x.1.2.2 ∧ x.1.1.size ≤ 1000000
abbrev GIB (w : World) (g : Nat) := { x : IB // GoodIB w g x }
def qc6 (w : World) (g : Nat) (x : GIB w g) : List Value := bCells [x.1]
def qkt (w : World) (g : Nat) (x y : GIB w g) : Int := x.1.1.1.cmp y.1.1.1
theorem swo_cmpIB {w : World} {g : Nat} : SWO (ltOf (qkt w g)) where
 irrefl x := by simp [ltOf, qkt, Tm.cmp_self]
 trans x y z h1 h2 := by
  unfold ltOf qkt at *;rw [decide_eq_true_eq] at *;exact (Tm.cmp_tri x.1.1.1 y.1.1.1 z.1.1.1).2.1 h1 (Int.le_of_lt h2)
 ntrans x y z h1 h2 := by
  unfold ltOf qkt at *;rw [decide_eq_false_iff_not] at *;have n1 := Tm.cmp_neg x.1.1.1 y.1.1.1;have n2 := Tm.cmp_neg y.1.1.1 z.1.1.1;have n3 := Tm.cmp_neg x.1.1.1 z.1.1.1;have := (Tm.cmp_tri z.1.1.1 y.1.1.1 x.1.1.1).1 (by omega) (by omega);omega
theorem qm5 (l : List IB) (q r : Nat) (hq : q < l.length) (hr : r < 8) : (bCells l)[q * 8 + r]? = (bCells [l[q]])[r]? := by
 have e : l = l.take q ++ ([l[q]] ++ l.drop (q + 1)) := by simp
 have e2 : bCells l = bCells (l.take q) ++ (bCells [l[q]] ++ bCells (l.drop (q + 1))) := by
  conv => lhs; rw [e]
  rw [qcv, qcv]
 have h1 : (bCells (l.take q)).length = q * 8 := by rw [qbc, List.length_take, Nat.min_eq_left (by omega)]
 rw [e2, List.getElem?_append_right (by omega), h1, List.getElem?_append_left (by rw [qbc]; simp; omega)]
 congr 1; omega
theorem qlq {w : World} {g : Nat} [Inhabited (GIB w g)] (d : Array (GIB w g)) : (flatK (qc6 w g) 8 d).toList = bCells (d.toList.map (·.1)) := by
 apply List.ext_getElem?;intro t;by_cases ht : t < d.size * 8
 ·obtain ⟨q, r, hm, rfl⟩ : ∃ q r, r < 8 ∧ t = q * 8 + r := ⟨t / 8, t % 8, Nat.mod_lt _ (by omega), by omega⟩;have hq : (q * 8 + r) / 8 = q := by omega
  have hr : (q * 8 + r) % 8 = r := by omega
  have h4 : q < d.size := by omega
  have hl : q < (d.toList.map (·.1)).length := by simpa using h4
  have hx : (d.toList.map (·.1))[q] = (d[q]!).1 := by simp [h4]
  rw [qm5 _ q r hl hm, hx];have hs : q * 8 + r < (flatK (qc6 w g) 8 d).size := by simpa using ht
  have h := get_flatK (qc6 w g) 8 d (q * 8 + r) ht;rw [hq, hr] at h;have hel : r < (qc6 w g d[q]!).length := by unfold qc6; rw [qbc]; simp; omega
  rw [Array.getElem?_toList, Array.getElem?_eq_getElem hs, ← getElem!_pos (flatK (qc6 w g) 8 d) (q * 8 + r) hs, h];rw [getElem!_pos (qc6 w g d[q]!) r hel];exact (List.getElem?_eq_getElem hel).symm
 ·rw [List.getElem?_eq_none (by simpa using ht), List.getElem?_eq_none (by rw [qbc]; simpa using ht)]
def SortedIB (w : World) (base g n cap : Nat) (F : Nat → Prop) (its : List IB) (e : Ending) (w' : World) : Prop :=
 e = .returned (.tuple #[]) ∧ ∃ its', its'.Perm its ∧ (∀ i j, (hi : i < j) → (hj : j < its'.length) → (its'[i].1.1.cmp its'[j].1.1) ≤ 0) ∧
  RowB w' base F (.slice (some ⟨g, 0, none⟩) n cap) its' ∧ w.grownBy w' (some g)
end Go.Proofs.YtpjmdilpldaapaaGreatDoor
namespace Go.Proofs.YtpjmdilpldaapaaGreatDoor
def insB (x : Bd) : List Bd → List Bd
 | [] => [x]
 | b :: r => if x.1.cmp b.1 < 0 then x :: b :: r else b :: insB x r
def qg4 (l : List Bd) : List Bd := l.foldl (fun a b => insB b a) []
theorem qgq (x : Bd) : ∀ l, (insB x l).Perm (x :: l)
 | [] => List.Perm.refl _
 | b :: r => by
  rw [insB]
  split
  ·exact List.Perm.refl _
  ·exact (List.Perm.cons b (qgq x r)).trans (List.Perm.swap x b r)
theorem qge : ∀ (l a : List Bd), (l.foldl (fun a b => insB b a) a).Perm (l ++ a)
 | [], a => List.Perm.refl _
 | b :: r, a => by
  rw [List.foldl_cons];refine (qge r _).trans ?_;refine ((qgq b a).append_left r).trans ?_;exact List.perm_middle
theorem qha (l : List Bd) : (qg4 l).Perm l := by have := qge l []; simpa [qg4] using this
def LeB (a b : Bd) : Prop := a.1.cmp b.1 ≤ 0
theorem insB_sorted (x : Bd) : ∀ l, l.Pairwise LeB → (insB x l).Pairwise LeB
 | [], _ => by rw [insB]; exact List.pairwise_singleton ..
 | b :: r, h => by
  obtain ⟨h1, h2⟩ := List.pairwise_cons.1 h;rw [insB]
  split
  ·rename_i hx
   refine List.pairwise_cons.2 ⟨fun c hc => ?_, h⟩;rcases List.mem_cons.1 hc with rfl | hc
   ·exact Int.le_of_lt hx
   ·exact Int.le_of_lt ((Tm.cmp_tri x.1 b.1 c.1).2.1 hx (h1 c hc))
  ·rename_i hx
   refine List.pairwise_cons.2 ⟨fun c hc => ?_, insB_sorted x r h2⟩;rcases List.mem_cons.1 ((qgq x r).mem_iff.1 hc) with rfl | hc
   ·have := Tm.cmp_neg c.1 b.1; unfold LeB; omega
   ·exact h1 c hc
theorem qi3 (l : List Bd) : (qg4 l).Pairwise LeB := by
 have key : ∀ (l a : List Bd), a.Pairwise LeB → (l.foldl (fun a b => insB b a) a).Pairwise LeB := by
  intro l
  induction l with
  | nil => intro a h; exact h
  | cons b r ih => intro a h; exact ih _ (insB_sorted b a h)
 exact key l [] List.Pairwise.nil
def qbs (l : List Bd) : Prop := l.Pairwise (fun a b => a.1 ≠ b.1)
theorem qew : ∀ (a b : List Bd), a.Perm b → a.Pairwise LeB → b.Pairwise LeB → qbs a → a = b
 | [], b, h, _, _, _ => h.nil_eq
 | x :: a, [], h, _, _, _ => absurd h.length_eq (by simp)
 | x :: a, y :: b, h, ha, hb, hv => by
  obtain ⟨a1, a2⟩ := List.pairwise_cons.1 ha;obtain ⟨b1, b2⟩ := List.pairwise_cons.1 hb;obtain ⟨v1, v2⟩ := List.pairwise_cons.1 hv;have e : x = y := by
   have hx : x ∈ y :: b := h.mem_iff.1 (List.mem_cons_self ..);have hy : y ∈ x :: a := h.mem_iff.2 (List.mem_cons_self ..);rcases List.mem_cons.1 hx with e | hx
   ·exact e
   rcases List.mem_cons.1 hy with e | hy
   ·exact e.symm
   have k1 := a1 y hy;have k2 := b1 x hx;unfold LeB at k1 k2;have := Tm.cmp_neg x.1 y.1;exact absurd (Tm.cmp_zero.1 (show x.1.cmp y.1 = 0 by omega)) (v1 y hy)
  subst e;rw [qew a b h.cons_inv a2 b2 v2]
theorem sorted_is {a l : List Bd} (h : a.Perm l) (hs : a.Pairwise LeB) (hv : qbs l) : a = qg4 l :=
 qew a (qg4 l) (h.trans (qha l).symm) hs (qi3 l) (h.symm.pairwise hv (fun h e => h e.symm))
def occT (x t : Tm) : Bool := decide (x ∈ t.all)
def qa1 (a b : Tm) : Bool := decide (a.kind = 3) && decide (b.kind = 3) && decide (a.name = b.name) && decide (a.kids.length = b.kids.length)
def oneU (x t : Tm) : Tm × Tm × Int := if fits x t = false then (x, t, 11) else if occT x t = true then (x, t, 12) else (x, t, 0)
def qav (a b : Tm) : Tm × Tm × Int :=
 if a.kind = 1 then
  (if b.kind = 1 then (if a.sort = b.sort then (if a.cmp b < 0 then (b, a, 0) else (a, b, 0)) else if b.sort = 0 then (b, a, 0) else if a.sort = 0 then (a, b, 0) else (a, b, 11)) else oneU a b)
 else if b.kind = 1 then oneU b a else (a, b, 11)
def putP (x t : Tm) (p : Bd) : Bd := (p.1.put [(x, t)], p.2.put [(x, t)])
def putB (x t : Tm) (b : Bd) : Bd := (b.1, b.2.put [(x, t)])
def okP (l : List Bd) : Bool := l.all fun p => decide (p.1.valid = 0) && decide (p.2.valid = 0)
def okB (l : List Bd) : Bool := l.all fun b => decide (b.1.valid = 0) && decide (b.1.kind = 1) && decide (b.2.valid = 0)
def qc8 (x t : Tm) (ps bs : List Bd) : Bool := okP (ps.map (putP x t)) && (bs.map (putB x t)).all (fun b => decide (b.2.valid = 0))
def qbw (a b : Tm) (ps bs : List Bd) : Int × List Bd × List Bd :=
 if a = b then (0, ps, bs) else if qa1 a b = true then (0, a.kids.zip b.kids ++ ps, bs)
 else if (qav a b).2.2 ≠ 0 then ((qav a b).2.2, ps, bs)
 else (if qc8 (qav a b).1 (qav a b).2.1 ps bs = true then 0 else 3, ps.map (putP (qav a b).1 (qav a b).2.1), bs.map (putB (qav a b).1 (qav a b).2.1) ++ [((qav a b).1, (qav a b).2.1)])
def qjk (ps bs : List Bd) : Bool := decide (ps.length ≤ 1000000) && decide (bs.length ≤ 1000000) && okP ps && okB bs
def runU : Nat → List Bd → List Bd → Option (Int × List Bd)
 | 0, _, _ => none
 | _ + 1, [], bs => if qjk [] bs = true then some (0, bs) else none
 | n + 1, p :: ps, bs => if qjk (p :: ps) bs = true then (if (qbw p.1 p.2 ps bs).1 ≠ 0 then some ((qbw p.1 p.2 ps bs).1, []) else runU n (qbw p.1 p.2 ps bs).2.1 (qbw p.1 p.2 ps bs).2.2) else none
theorem okP_iff {l : List Bd} : okP l = true ↔ ∀ p ∈ l, p.1.valid = 0 ∧ p.2.valid = 0 := by
 unfold okP; rw [List.all_eq_true]; simp
theorem okB_iff {l : List Bd} : okB l = true ↔ ∀ p ∈ l, p.1.valid = 0 ∧ p.1.kind = 1 ∧ p.2.valid = 0 := by
 unfold okB; rw [List.all_eq_true]; simp [and_assoc]
theorem qdj {ps bs : List Bd} : qjk ps bs = true ↔ ps.length ≤ 1000000 ∧ bs.length ≤ 1000000 ∧ (∀ p ∈ ps, p.1.valid = 0 ∧ p.2.valid = 0) ∧ (∀ p ∈ bs, p.1.valid = 0 ∧ p.1.kind = 1 ∧ p.2.valid = 0) := by
 unfold qjk; rw [Bool.and_eq_true, Bool.and_eq_true, Bool.and_eq_true, okP_iff, okB_iff]; simp [and_assoc]
theorem qay {t : Tm} : t.valid = 0 ↔ t.check = 0 ∧ t.size ≤ 400 ∧ t.depth ≤ 40 := by
 unfold Tm.valid;constructor
 ·intro h
  split at h
  ·rename_i g; exact absurd h g
  ·rename_i g
   split at h
   ·omega
   ·rename_i g2; exact ⟨by omega, by omega, by omega⟩
 ·rintro ⟨h1, h2, h3⟩;rw [if_neg (by simpa using h1), if_neg (by omega)]
theorem qb0 : ∀ {l : List Tm}, Tm.checks l = 0 ↔ ∀ t ∈ l, t.check = 0
 | [] => by simp [Tm.checks]
 | t :: r => by
  rw [Tm.checks]
  split
  ·rename_i h
   simp only [List.mem_cons, forall_eq_or_imp];exact ⟨fun h2 => absurd h2 h, fun h2 => absurd h2.1 h⟩
  ·rename_i h
   rw [qb0];simp only [List.mem_cons, forall_eq_or_imp];exact ⟨fun h2 => ⟨by omega, h2⟩, fun h2 => h2.2⟩
theorem qc4 {k s : Int} {n : ByteArray} {l : List Tm} (h : (Tm.mk k n s l).check = 0) : ((k = 1 ∨ k = 2) ∧ l = []) ∨ (k = 3 ∧ s = 0 ∧ Tm.checks l = 0) := by
 rw [Tm.check] at h;by_cases hk : k = 1 ∨ k = 2
 ·rw [if_pos hk] at h
  split at h
  ·omega
  ·rename_i g
   exact .inl ⟨hk, Classical.byContradiction fun e => g (.inr (.inr e))⟩
 ·rw [if_neg hk] at h
  split at h
  ·rename_i h3
   split at h
   ·omega
   ·rename_i g
    split at h
    ·omega
    ·split at h
     ·omega
     ·exact .inr ⟨h3, by omega, h⟩
  ·omega
theorem qk4 : ∀ {l : List Tm} {t : Tm}, t ∈ l → t.size ≤ Tm.sizes l
 | x :: r, t, h => by
  rw [Tm.sizes];rcases List.mem_cons.1 h with rfl | h
  ·omega
  ·have := qk4 h; omega
theorem qj1 : ∀ {l : List Tm} {t : Tm}, t ∈ l → t.depth ≤ Tm.depths l
 | x :: r, t, h => by
  rw [Tm.depths];rcases List.mem_cons.1 h with rfl | h
  ·omega
  ·have := qj1 h; omega
theorem qat {t k : Tm} (h : t.valid = 0) (hk : k ∈ t.kids) : k.valid = 0 := by
 obtain ⟨kd, n, s, l⟩ := t;obtain ⟨h1, h2, h3⟩ := qay.1 h;have hk : k ∈ l := hk;rw [Tm.size] at h2;rw [Tm.depth] at h3;have a := qk4 hk;have b := qj1 hk;refine qay.2 ⟨?_, by omega, by omega⟩;rcases qc4 h1 with ⟨-, rfl⟩ | ⟨-, -, hc⟩
 ·simp at hk
 ·exact qb0.1 hc k hk
theorem var_all {x : Tm} (h : x.valid = 0) (hk : x.kind = 1) : x.all = [x] := by
 obtain ⟨kd, n, s, l⟩ := x;obtain ⟨h1, -, -⟩ := qay.1 h;have hk : kd = 1 := hk;rcases qc4 h1 with ⟨-, rfl⟩ | ⟨h3, -, -⟩
 ·rfl
 ·omega
theorem mem_self (t : Tm) : t ∈ t.all := by cases t; rw [Tm.all]; exact List.mem_cons_self ..
theorem qdh {x : Tm} : ∀ {l : List Tm}, x ∈ Tm.alls l ↔ ∃ t ∈ l, x ∈ t.all
 | [] => by simp [Tm.alls]
 | t :: r => by rw [Tm.alls, List.mem_append, qdh]; simp
theorem qcz {t k x : Tm} (hk : k ∈ t.kids) (hx : x ∈ k.all) : x ∈ t.all := by
 cases t; rw [Tm.all]; exact List.mem_cons_of_mem _ (qdh.2 ⟨k, hk, hx⟩)
theorem qic {x t : Tm} {k s : Int} {n : ByteArray} {l : List Tm} : (Tm.mk k n s l).put [(x, t)] = if k = 1 then (if x = .mk k n s l then t else .mk k n s l) else .mk k n s (Tm.puts [(x, t)] l) := by
 rw [Tm.put]; simp only [getS]
theorem put_var {s : List Bd} {x : Tm} (hk : x.kind = 1) : x.put s = getS s x := by
 obtain ⟨kd, n, so, l⟩ := x;have hk : kd = 1 := hk;rw [Tm.put, if_pos hk]
mutual
theorem qgm {x u y : Tm} (hy : y.kind = 1) : ∀ t : Tm, t.check = 0 → y ∈ (t.put [(x, u)]).all → (y ∈ t.all ∧ y ≠ x) ∨ y ∈ u.all
 | .mk k n s l, hc, hm => by
  rw [qic] at hm
  split at hm
  ·rename_i hk
   split at hm
   ·exact .inr hm
   ·rename_i hne
    rcases qc4 hc with ⟨-, rfl⟩ | ⟨h3, -, -⟩
    ·rw [Tm.all, Tm.alls, List.mem_singleton] at hm;subst hm;exact .inl ⟨mem_self _, fun e => hne e.symm⟩
    ·omega
  ·rename_i hk
   rw [Tm.all, List.mem_cons] at hm;rcases hm with rfl | hm
   ·exact absurd hy hk
   ·rcases qc4 hc with ⟨-, rfl⟩ | ⟨-, -, h4⟩
    ·simp [Tm.puts, Tm.alls] at hm
    ·rcases qlh hy l h4 hm with ⟨h5, h6⟩ | h5
     ·exact .inl ⟨by rw [Tm.all]; exact List.mem_cons_of_mem _ h5, h6⟩
     ·exact .inr h5
theorem qlh {x u y : Tm} (hy : y.kind = 1) : ∀ l : List Tm, Tm.checks l = 0 → y ∈ Tm.alls (Tm.puts [(x, u)] l) → (y ∈ Tm.alls l ∧ y ≠ x) ∨ y ∈ u.all
 | [], _, hm => by simp [Tm.puts, Tm.alls] at hm
 | t :: r, hc, hm => by
  have h1 : t.check = 0 := qb0.1 hc t (List.mem_cons_self ..);have h2 : Tm.checks r = 0 := qb0.2 fun z hz => qb0.1 hc z (List.mem_cons_of_mem _ hz);rw [Tm.puts, Tm.alls, List.mem_append] at hm;rw [Tm.alls];rcases hm with hm | hm
  ·rcases qgm hy t h1 hm with ⟨h5, h6⟩ | h5
   ·exact .inl ⟨List.mem_append_left _ h5, h6⟩
   ·exact .inr h5
  ·rcases qlh hy r h2 hm with ⟨h5, h6⟩ | h5
   ·exact .inl ⟨List.mem_append_right _ h5, h6⟩
   ·exact .inr h5
end
def Solves (τ ps bs : List Bd) : Prop := (∀ p ∈ ps, p.1.put τ = p.2.put τ) ∧ (∀ b ∈ bs, b.1.put τ = b.2.put τ)
mutual
theorem qf3 {x t : Tm} {τ : List Bd} (h : x.put τ = t.put τ) : ∀ u : Tm, (u.put [(x, t)]).put τ = u.put τ
 | .mk k n s l => by
  rw [qic]
  split
  ·rename_i hk
   split
   ·rename_i e; rw [← e, h]
   ·rfl
  ·rename_i hk
   rw [Tm.put, if_neg hk, Tm.put, if_neg hk, qjc h l]
theorem qjc {x t : Tm} {τ : List Bd} (h : x.put τ = t.put τ) : ∀ l : List Tm, Tm.puts τ (Tm.puts [(x, t)] l) = Tm.puts τ l
 | [] => rfl
 | u :: r => by rw [Tm.puts, Tm.puts, Tm.puts, qf3 h u, qjc h r]
end
structure Chosen (a b x t : Tm) : Prop where
 pair : (x = a ∧ t = b) ∨ (x = b ∧ t = a)
 var : x.kind = 1
 vx : x.valid = 0
 vt : t.valid = 0
 fit : x.sort = 0 ∨ (t.kind ≠ 3 ∧ t.sort = x.sort)
 out : x ∉ t.all
theorem oneU_ok {x t : Tm} (hx : x.valid = 0) (ht : t.valid = 0) (hk : x.kind = 1) (h : (oneU x t).2.2 = 0) : oneU x t = (x, t, 0) ∧ (x.sort = 0 ∨ (t.kind ≠ 3 ∧ t.sort = x.sort)) ∧ x ∉ t.all := by
 unfold oneU at h ⊢
 split at h
 ·simp at h
 ·rename_i h1
  split at h
  ·simp at h
  ·rename_i h2
   rw [if_neg h1, if_neg h2];refine ⟨rfl, ?_, by simpa [occT] using h2⟩;have h1 : fits x t = true := by simpa using h1
   unfold fits at h1;simp [hx, ht, hk] at h1;exact h1
theorem chosen_of {a b : Tm} (ha : a.valid = 0) (hb : b.valid = 0) (hne : a ≠ b) (h : (qav a b).2.2 = 0) : Chosen a b (qav a b).1 (qav a b).2.1 := by
 have out : ∀ x t : Tm, x ≠ t → t.valid = 0 → t.kind = 1 → x ∉ t.all := fun x t hn hv hk hm => by rw [var_all hv hk, List.mem_singleton] at hm; exact hn hm
 unfold qav at h ⊢;by_cases ka : a.kind = 1
 ·rw [if_pos ka] at h ⊢;by_cases kb : b.kind = 1
  ·rw [if_pos kb] at h ⊢;have ka3 : a.kind ≠ 3 := by omega
   have kb3 : b.kind ≠ 3 := by omega
   by_cases hs : a.sort = b.sort
   ·rw [if_pos hs] at h ⊢
    split
    ·exact ⟨.inr ⟨rfl, rfl⟩, kb, hb, ha, .inr ⟨ka3, hs⟩, out b a (Ne.symm hne) ha ka⟩
    ·exact ⟨.inl ⟨rfl, rfl⟩, ka, ha, hb, .inr ⟨kb3, hs.symm⟩, out a b hne hb kb⟩
   ·rw [if_neg hs] at h ⊢;by_cases h0 : b.sort = 0
    ·rw [if_pos h0];exact ⟨.inr ⟨rfl, rfl⟩, kb, hb, ha, .inl h0, out b a (Ne.symm hne) ha ka⟩
    ·rw [if_neg h0] at h ⊢;by_cases h1 : a.sort = 0
     ·rw [if_pos h1];exact ⟨.inl ⟨rfl, rfl⟩, ka, ha, hb, .inl h1, out a b hne hb kb⟩
     ·rw [if_neg h1] at h;simp at h
  ·rw [if_neg kb] at h ⊢;obtain ⟨e, h1, h2⟩ := oneU_ok ha hb ka h;rw [e];exact ⟨.inl ⟨rfl, rfl⟩, ka, ha, hb, h1, h2⟩
 ·rw [if_neg ka] at h ⊢;by_cases kb : b.kind = 1
  ·rw [if_pos kb] at h ⊢;obtain ⟨e, h1, h2⟩ := oneU_ok hb ha kb h;rw [e];exact ⟨.inr ⟨rfl, rfl⟩, kb, hb, ha, h1, h2⟩
  ·rw [if_neg kb] at h;simp at h
theorem qa0 {a b : Tm} : qa1 a b = true ↔ a.kind = 3 ∧ b.kind = 3 ∧ a.name = b.name ∧ a.kids.length = b.kids.length := by
 unfold qa1; simp [and_assoc]
theorem qd4 {a b : Tm} {ps bs : List Bd} (ha : a.valid = 0) (hb : b.valid = 0) (h : (qbw a b ps bs).1 = 0) :
  (a = b ∧ qbw a b ps bs = (0, ps, bs)) ∨ (a ≠ b ∧ qa1 a b = true ∧ qbw a b ps bs = (0, a.kids.zip b.kids ++ ps, bs)) ∨
  (∃ x t, Chosen a b x t ∧ qc8 x t ps bs = true ∧ qbw a b ps bs = (0, ps.map (putP x t), bs.map (putB x t) ++ [(x, t)])) := by
 unfold qbw at h ⊢;by_cases he : a = b
 ·exact .inl ⟨he, if_pos he⟩
 rw [if_neg he] at h ⊢;by_cases hal : qa1 a b = true
 ·exact .inr (.inl ⟨he, hal, if_pos hal⟩)
 rw [if_neg hal] at h ⊢;by_cases hc : (qav a b).2.2 ≠ 0
 ·rw [if_pos hc] at h; exact absurd h hc
 rw [if_neg hc] at h ⊢;by_cases hr : qc8 (qav a b).1 (qav a b).2.1 ps bs = true
 ·exact .inr (.inr ⟨_, _, chosen_of ha hb he (by simpa using hc), hr, by rw [if_pos hr]⟩)
 ·rw [if_neg hr] at h; simp at h
theorem qky {τ : List Bd} : ∀ {l m : List Tm}, l.length = m.length → (∀ p ∈ l.zip m, p.1.put τ = p.2.put τ) → Tm.puts τ l = Tm.puts τ m
 | [], [], _, _ => rfl
 | a :: l, b :: m, h, hp => by
  rw [Tm.puts, Tm.puts, hp (a, b) (by simp), qky (by simpa using h) fun p hp' => hp p (by simp; exact .inr hp')]
theorem qcw {t : Tm} (h : t.valid = 0) (hk : t.kind = 3) : t.sort = 0 := by
 obtain ⟨kd, n, s, l⟩ := t;have hk : kd = 3 := hk;rcases qc4 (qay.1 h).1 with ⟨h1, -⟩ | ⟨-, h2, -⟩
 ·omega
 ·exact h2
theorem put_app {s : List Bd} {t : Tm} (hk : t.kind = 3) : t.put s = .mk t.kind t.name t.sort (Tm.puts s t.kids) := by
 obtain ⟨kd, n, so, l⟩ := t;have hk : kd = 3 := hk;rw [Tm.put, if_neg (by omega)]; rfl
theorem step_back {a b : Tm} {ps bs : List Bd} (ha : a.valid = 0) (hb : b.valid = 0) (h : (qbw a b ps bs).1 = 0) {τ : List Bd} (hs : Solves τ (qbw a b ps bs).2.1 (qbw a b ps bs).2.2) : Solves τ ((a, b) :: ps) bs := by
 rcases qd4 ha hb h with ⟨rfl, e⟩ | ⟨-, hal, e⟩ | ⟨x, t, hc, -, e⟩ <;> rw [e] at hs
 ·refine ⟨fun p hp => ?_, hs.2⟩;rcases List.mem_cons.1 hp with rfl | hp
  ·rfl
  ·exact hs.1 p hp
 ·refine ⟨fun p hp => ?_, hs.2⟩;rcases List.mem_cons.1 hp with rfl | hp
  ·obtain ⟨k1, k2, hn, hl⟩ := qa0.1 hal;show a.put τ = b.put τ;rw [put_app k1, put_app k2, k1, k2, hn, qcw ha k1, qcw hb k2, qky hl fun p hp => hs.1 p (List.mem_append_left _ hp)]
  ·exact hs.1 p (List.mem_append_right _ hp)
 ·have hx : x.put τ = t.put τ := hs.2 (x, t) (by simp);refine ⟨fun p hp => ?_, fun c hc' => ?_⟩
  ·rcases List.mem_cons.1 hp with rfl | hp
   ·rcases hc.pair with ⟨rfl, rfl⟩ | ⟨rfl, rfl⟩
    ·exact hx
    ·exact hx.symm
   ·have := hs.1 (putP x t p) (List.mem_map_of_mem hp);unfold putP at this;rw [qf3 hx, qf3 hx] at this;exact this
  ·have := hs.2 (putB x t c) (List.mem_append_left _ (List.mem_map_of_mem hc'));unfold putB at this;rw [qf3 hx] at this;exact this
def ApartU (ps bs : List Bd) : Prop := qbs bs ∧ ∀ c ∈ bs, (∀ p ∈ ps, c.1 ∉ p.1.all ∧ c.1 ∉ p.2.all) ∧ ∀ b ∈ bs, c.1 ∉ b.2.all
theorem okP_kids {a b : Tm} (ha : a.valid = 0) (hb : b.valid = 0) : ∀ p ∈ a.kids.zip b.kids, p.1.valid = 0 ∧ p.2.valid = 0 := fun p hp => by
 obtain ⟨h1, h2⟩ := List.of_mem_zip hp;exact ⟨qat ha h1, qat hb h2⟩
theorem right_iff {x t : Tm} {ps bs : List Bd} : qc8 x t ps bs = true ↔ (∀ p ∈ ps.map (putP x t), p.1.valid = 0 ∧ p.2.valid = 0) ∧ ∀ b ∈ bs.map (putB x t), b.2.valid = 0 := by
 unfold qc8;rw [Bool.and_eq_true, okP_iff, List.all_eq_true];simp only [decide_eq_true_eq]
theorem step_good {a b : Tm} {ps bs : List Bd} (ha : a.valid = 0) (hb : b.valid = 0) (h : (qbw a b ps bs).1 = 0) (hp : ∀ p ∈ ps, p.1.valid = 0 ∧ p.2.valid = 0) (hbs : ∀ p ∈ bs, p.1.valid = 0 ∧ p.1.kind = 1 ∧ p.2.valid = 0) :
  (∀ p ∈ (qbw a b ps bs).2.1, p.1.valid = 0 ∧ p.2.valid = 0) ∧ (∀ p ∈ (qbw a b ps bs).2.2, p.1.valid = 0 ∧ p.1.kind = 1 ∧ p.2.valid = 0) := by
 rcases qd4 ha hb h with ⟨rfl, e⟩ | ⟨-, hal, e⟩ | ⟨x, t, hc, hr, e⟩ <;> rw [e]
 ·exact ⟨hp, hbs⟩
 ·refine ⟨fun p hp' => ?_, hbs⟩;rcases List.mem_append.1 hp' with h1 | h1
  ·exact okP_kids ha hb p h1
  ·exact hp p h1
 ·obtain ⟨r1, r2⟩ := right_iff.1 hr;refine ⟨r1, fun p hp' => ?_⟩;rcases List.mem_append.1 hp' with h1 | h1
  ·have h2 := r2 p h1;obtain ⟨q, hq, rfl⟩ := List.mem_map.1 h1;exact ⟨(hbs q hq).1, (hbs q hq).2.1, h2⟩
  ·rw [List.mem_singleton] at h1; subst h1; exact ⟨hc.vx, hc.var, hc.vt⟩
theorem ql2 {a b : Tm} {ps bs : List Bd} (ha : a.valid = 0) (hb : b.valid = 0) (h : (qbw a b ps bs).1 = 0) (hp : ∀ p ∈ ps, p.1.valid = 0 ∧ p.2.valid = 0) (hbs : ∀ p ∈ bs, p.1.valid = 0 ∧ p.1.kind = 1 ∧ p.2.valid = 0)
  (hA : ApartU ((a, b) :: ps) bs) : ApartU (qbw a b ps bs).2.1 (qbw a b ps bs).2.2 := by
 obtain ⟨hv, hA⟩ := hA;rcases qd4 ha hb h with ⟨rfl, e⟩ | ⟨-, hal, e⟩ | ⟨x, t, hc, hr, e⟩ <;> rw [e]
 ·exact ⟨hv, fun c hc => ⟨fun p hp => (hA c hc).1 p (List.mem_cons_of_mem _ hp), (hA c hc).2⟩⟩
 ·refine ⟨hv, fun c hc => ⟨fun p hp => ?_, (hA c hc).2⟩⟩;rcases List.mem_append.1 hp with h1 | h1
  ·obtain ⟨h2, h3⟩ := List.of_mem_zip h1;have h4 := (hA c hc).1 (a, b) (List.mem_cons_self ..);exact ⟨fun h => h4.1 (qcz h2 h), fun h => h4.2 (qcz h3 h)⟩
  ·exact (hA c hc).1 p (List.mem_cons_of_mem _ h1)
 ·have hcx : ∀ c ∈ bs, c.1 ≠ x ∧ c.1 ∉ t.all := fun c hc' => by
   have h4 := (hA c hc').1 (a, b) (List.mem_cons_self ..);rcases hc.pair with ⟨rfl, rfl⟩ | ⟨rfl, rfl⟩
   ·exact ⟨fun e => h4.1 (e ▸ mem_self _), h4.2⟩
   ·exact ⟨fun e => h4.2 (e ▸ mem_self _), h4.1⟩
  have away : ∀ (y : Tm), y.kind = 1 → y ∉ t.all → ∀ u : Tm, u.check = 0 → (y = x ∨ y ∉ u.all) → y ∉ (u.put [(x, t)]).all := fun y hy hyt u hu hor hm => by
   rcases qgm hy u hu hm with ⟨h1, h2⟩ | h1
   ·rcases hor with h3 | h3
    ·exact h2 h3
    ·exact h3 h1
   ·exact hyt h1
  refine ⟨?_, fun c hc' => ?_⟩
  ·refine List.pairwise_append.2 ⟨?_, List.pairwise_singleton .., fun c hc' d hd e => ?_⟩
   ·rw [List.pairwise_map]; exact hv
   ·obtain ⟨q, hq, rfl⟩ := List.mem_map.1 hc';rw [List.mem_singleton] at hd;subst hd;exact (hcx q hq).1 e
  ·have key : ∀ y : Tm, y.kind = 1 → y ∉ t.all → (∀ p ∈ ps, y = x ∨ (y ∉ p.1.all ∧ y ∉ p.2.all)) → (∀ d ∈ bs, y = x ∨ y ∉ d.2.all) →
     (∀ p ∈ ps.map (putP x t), y ∉ p.1.all ∧ y ∉ p.2.all) ∧ ∀ d ∈ bs.map (putB x t) ++ [(x, t)], y ∉ d.2.all := fun y hy hyt h1 h2 => by
    refine ⟨fun p hp' => ?_, fun d hd => ?_⟩
    ·obtain ⟨q, hq, rfl⟩ := List.mem_map.1 hp';have h3 := h1 q hq;exact ⟨away y hy hyt q.1 (qay.1 (hp q hq).1).1 (h3.imp id (·.1)), away y hy hyt q.2 (qay.1 (hp q hq).2).1 (h3.imp id (·.2))⟩
    ·rcases List.mem_append.1 hd with hd | hd
     ·obtain ⟨q, hq, rfl⟩ := List.mem_map.1 hd;exact away y hy hyt q.2 (qay.1 (hbs q hq).2.2).1 (h2 q hq)
     ·rw [List.mem_singleton] at hd; subst hd; exact hyt
   rcases List.mem_append.1 hc' with hc' | hc'
   ·obtain ⟨q, hq, rfl⟩ := List.mem_map.1 hc';exact key q.1 (hbs q hq).2.1 (hcx q hq).2 (fun p hp' => .inr ((hA q hq).1 p (List.mem_cons_of_mem _ hp'))) (fun d hd => .inr ((hA q hq).2 d hd))
   ·rw [List.mem_singleton] at hc'; subst hc';exact key x hc.var hc.out (fun _ _ => .inl rfl) (fun _ _ => .inl rfl)
mutual
theorem qjd (s : List Bd) : ∀ t : Tm, (∀ b ∈ s, b.1 ∉ t.all) → t.put s = t
 | .mk k n so l, h => by
  rw [Tm.put]
  split
  ·exact (qij (fun b hb e => h b hb (by rw [Tm.all, ← e]; exact List.mem_cons_self ..))).1
  ·rw [qhf s l (fun b hb hx => h b hb (by rw [Tm.all]; exact List.mem_cons_of_mem _ hx))]
theorem qhf (s : List Bd) : ∀ l : List Tm, (∀ b ∈ s, b.1 ∉ Tm.alls l) → Tm.puts s l = l
 | [], _ => rfl
 | t :: r, h => by
  rw [Tm.puts, qjd s t (fun b hb hx => h b hb (by rw [Tm.alls]; exact List.mem_append_left _ hx)), qhf s r (fun b hb hx => h b hb (by rw [Tm.alls]; exact List.mem_append_right _ hx))]
end
theorem qlk {l : List Bd} (ha : qbs l) {b : Bd} (hb : b ∈ l) : getS l b.1 = b.2 := by
 induction l with
 | nil => cases hb
 | cons c r ih =>
  obtain ⟨h1, h2⟩ := List.pairwise_cons.1 ha;rw [getS];rcases List.mem_cons.1 hb with rfl | hb
  ·rw [if_pos rfl]
  ·rw [if_neg (h1 b hb)]; exact ih h2 hb
theorem qi7 : ∀ {n : Nat} {ps bs : List Bd} {s : List Bd}, runU n ps bs = some (0, s) → ApartU ps bs → Solves s ps bs ∧ qbs s ∧ (∀ c ∈ s, ∀ b ∈ s, c.1 ∉ b.2.all) ∧ (∀ p ∈ s, p.1.valid = 0 ∧ p.1.kind = 1 ∧ p.2.valid = 0) ∧ s.length ≤ 1000000
 | 0, _, _, _, h, _ => by rw [runU] at h; cases h
 | n + 1, [], bs, s, h, hA => by
  rw [runU] at h
  split at h
  ·rename_i hg
   obtain ⟨g1, g2, g3, g4⟩ := qdj.1 hg;simp only [Option.some.injEq, Prod.mk.injEq, true_and] at h;subst h;refine ⟨⟨by simp, fun b hb => ?_⟩, hA.1, fun c hc b hb => (hA.2 c hc).2 b hb, g4, g2⟩;rw [put_var (g4 b hb).2.1, qlk hA.1 hb, qjd _ b.2 fun c hc => (hA.2 c hc).2 b hb]
  ·cases h
 | n + 1, p :: ps', bs, s, h, hA => by
  rw [runU] at h
  split at h
  ·rename_i hg
   obtain ⟨g1, g2, g3, g4⟩ := qdj.1 hg
   split at h
   ·rename_i he
    injection h with h; injection h with h _;exact absurd h he
   ·rename_i he
    have he : (qbw p.1 p.2 ps' bs).1 = 0 := by omega
    have hpv := g3 p (List.mem_cons_self ..);have hps : ∀ q ∈ ps', q.1.valid = 0 ∧ q.2.valid = 0 := fun q hq => g3 q (List.mem_cons_of_mem _ hq);obtain ⟨r1, r2⟩ := qi7 h (ql2 hpv.1 hpv.2 he hps g4 hA);exact ⟨step_back hpv.1 hpv.2 he r1, r2⟩
  ·cases h
def occP (x : Tm) (ps : List Bd) : Bool := ps.any fun p => occT x p.1 || occT x p.2
def cntU (L : List Tm) (ps : List Bd) : Nat := (L.filter fun x => occP x ps).length
theorem qct {x : Tm} {ps : List Bd} : occP x ps = true ↔ ∃ p ∈ ps, x ∈ p.1.all ∨ x ∈ p.2.all := by
 unfold occP occT; simp
theorem qe7 {p q : Tm → Bool} : ∀ {L : List Tm}, (∀ x ∈ L, q x = true → p x = true) → (L.filter q).length ≤ (L.filter p).length
 | [], _ => Nat.le_refl _
 | x :: r, h => by
  have ih := qe7 (L := r) fun y hy => h y (List.mem_cons_of_mem _ hy);have hx := h x (List.mem_cons_self ..);rw [List.filter_cons, List.filter_cons]
  cases hq : q x with
  | true => rw [hx hq]; simpa using ih
  | false => cases p x <;> simp <;> omega
theorem qjy {p q : Tm → Bool} : ∀ {L : List Tm}, (∀ x ∈ L, q x = true → p x = true) → (∃ x ∈ L, p x = true ∧ q x = false) → (L.filter q).length < (L.filter p).length
 | [], _, h => by obtain ⟨x, hx, -⟩ := h; cases hx
 | x :: r, h, ⟨y, hy, hp, hq⟩ => by
  have ih := qe7 (L := r) fun y hy => h y (List.mem_cons_of_mem _ hy);have hx := h x (List.mem_cons_self ..);rw [List.filter_cons, List.filter_cons];rcases List.mem_cons.1 hy with rfl | hy
  ·rw [hp, hq]; simp; omega
  ·have ih2 := qjy (L := r) (fun y hy => h y (List.mem_cons_of_mem _ hy)) ⟨y, hy, hp, hq⟩
   cases hq : q x with
   | true => rw [hx hq]; simpa using ih2
   | false => cases p x <;> simp <;> omega
theorem qcr : ∀ l m : List Tm, Tm.sizes (l ++ m) = Tm.sizes l + Tm.sizes m
 | [], m => by simp [Tm.sizes]
 | x :: l, m => by rw [List.cons_append, Tm.sizes, Tm.sizes, qcr l m]; omega
theorem qey (t : Tm) : 1 ≤ t.size := by cases t; rw [Tm.size]; omega
theorem qd0 : ∀ l : List Tm, l.length ≤ Tm.sizes l
 | [] => Nat.zero_le _
 | x :: l => by rw [Tm.sizes, List.length_cons]; have := qd0 l; have := qey x; omega
theorem qiw : ∀ {l m : List Tm}, l.length = m.length → Tm.sizes ((l.zip m).map (·.1)) = Tm.sizes l
 | [], [], _ => rfl
 | a :: l, b :: m, h => by
  rw [List.zip_cons_cons, List.map_cons, Tm.sizes, Tm.sizes, qiw (by simpa using h)]
structure InvU (L : List Tm) (M : Nat) (ps bs : List Bd) : Prop where
 okp : ∀ p ∈ ps, p.1.valid = 0 ∧ p.2.valid = 0
 okb : ∀ p ∈ bs, p.1.valid = 0 ∧ p.1.kind = 1 ∧ p.2.valid = 0
 vars : ∀ p ∈ ps, ∀ y : Tm, y.kind = 1 → (y ∈ p.1.all ∨ y ∈ p.2.all) → y ∈ L
 len : ∃ A B, ps = A ++ B ∧ Tm.sizes (A.map (·.1)) ≤ 400 ∧ B.length + 400 * cntU L ps ≤ M
 blen : bs.length + cntU L ps ≤ L.length
theorem InvU.good {L : List Tm} {M : Nat} {ps bs : List Bd} (h : InvU L M ps bs) (hM : M + 400 ≤ 1000000) (hL : L.length ≤ 1000000) : qjk ps bs = true := by
 obtain ⟨A, B, e, h1, h2⟩ := h.len;have h3 := qd0 (A.map (·.1));rw [List.length_map] at h3;have h4 := h.blen;refine qdj.2 ⟨by rw [e, List.length_append]; omega, by omega, h.okp, h.okb⟩
theorem InvU.step {L : List Tm} {M : Nat} {a b : Tm} {ps bs : List Bd} (hL : ∀ x ∈ L, x.kind = 1) (h : InvU L M ((a, b) :: ps) bs) (he : (qbw a b ps bs).1 = 0) :
  InvU L M (qbw a b ps bs).2.1 (qbw a b ps bs).2.2 ∧ (cntU L (qbw a b ps bs).2.1 < cntU L ((a, b) :: ps) ∨
   (cntU L (qbw a b ps bs).2.1 ≤ cntU L ((a, b) :: ps) ∧ Tm.sizes ((qbw a b ps bs).2.1.map (·.1)) < Tm.sizes (((a, b) :: ps).map (·.1)))) := by
 obtain ⟨va, vb⟩ : a.valid = 0 ∧ b.valid = 0 := h.okp (a, b) (List.mem_cons_self ..);have hps : ∀ p ∈ ps, p.1.valid = 0 ∧ p.2.valid = 0 := fun p hp => h.okp p (List.mem_cons_of_mem _ hp);obtain ⟨g1, g2⟩ := step_good va vb he hps h.okb;have hb := h.blen;obtain ⟨A, B, eAB, hA, hB⟩ := h.len;have hsz : Tm.sizes (((a, b) :: ps).map (·.1)) = a.size + Tm.sizes (ps.map (·.1)) := by rw [List.map_cons, Tm.sizes]
 have ha1 := qey a;rcases qd4 va vb he with ⟨-, e⟩ | ⟨-, hal, e⟩ | ⟨x, t, hc, -, e⟩ <;> rw [e] at g1 g2 ⊢ <;> dsimp only at g1 g2 ⊢
 ·have hcnt : cntU L ps ≤ cntU L ((a, b) :: ps) := qe7 fun y _ hy => by
   obtain ⟨p, hp, h2⟩ := qct.1 hy;exact qct.2 ⟨p, List.mem_cons_of_mem _ hp, h2⟩
  refine ⟨⟨g1, g2, fun p hp => h.vars p (List.mem_cons_of_mem _ hp), ?_, by omega⟩, .inr ⟨hcnt, by omega⟩⟩
  cases A with
  | nil =>
   have e2 : (a, b) :: ps = B := eAB;refine ⟨[], ps, rfl, by simp [Tm.sizes], ?_⟩;rw [← e2, List.length_cons] at hB;have := Nat.mul_le_mul_left 400 hcnt; omega
  | cons p A =>
   injection eAB with e1 e2;refine ⟨A, B, e2, ?_, ?_⟩
   ·rw [List.map_cons, Tm.sizes] at hA; omega
   ·have := Nat.mul_le_mul_left 400 hcnt; omega
 ·obtain ⟨k1, k2, hn, hl⟩ := qa0.1 hal;have hcnt : cntU L (a.kids.zip b.kids ++ ps) ≤ cntU L ((a, b) :: ps) := qe7 fun y _ hy => by
   obtain ⟨p, hp, h2⟩ := qct.1 hy;rcases List.mem_append.1 hp with hp | hp
   ·obtain ⟨m1, m2⟩ := List.of_mem_zip hp;exact qct.2 ⟨(a, b), List.mem_cons_self .., h2.imp (qcz m1) (qcz m2)⟩
   ·exact qct.2 ⟨p, List.mem_cons_of_mem _ hp, h2⟩
  have hka : a.size = 1 + Tm.sizes a.kids := by cases a; rw [Tm.size]; rfl
  have hz := qiw hl;have ha4 := (qay.1 va).2.1;refine ⟨⟨g1, g2, fun p hp y hy hm => ?_, ?_, by omega⟩, .inr ⟨hcnt, by rw [List.map_append, qcr, hz]; omega⟩⟩
  ·rcases List.mem_append.1 hp with hp | hp
   ·obtain ⟨m1, m2⟩ := List.of_mem_zip hp;exact h.vars (a, b) (List.mem_cons_self ..) y hy (hm.imp (qcz m1) (qcz m2))
   ·exact h.vars p (List.mem_cons_of_mem _ hp) y hy hm
  ·have := Nat.mul_le_mul_left 400 hcnt
   cases A with
   | nil =>
    have e2 : (a, b) :: ps = B := eAB;refine ⟨a.kids.zip b.kids, ps, rfl, Nat.le_trans (Nat.le_of_eq hz) (by omega), ?_⟩;rw [← e2, List.length_cons] at hB;omega
   | cons p A =>
    injection eAB with e1 e2;subst e1;have e2 : ps = A ++ B := e2;refine ⟨a.kids.zip b.kids ++ A, B, by rw [e2, List.append_assoc], ?_, by omega⟩;rw [List.map_cons, Tm.sizes] at hA;rw [List.map_append, qcr, hz];dsimp only at hA;omega
 ·have hxL : x ∈ L := h.vars (a, b) (List.mem_cons_self ..) x hc.var (by rcases hc.pair with ⟨rfl, -⟩ | ⟨rfl, -⟩; exact .inl (mem_self _); exact .inr (mem_self _));have hback : ∀ p ∈ ps.map (putP x t), ∀ y : Tm, y.kind = 1 → (y ∈ p.1.all ∨ y ∈ p.2.all) → (∃ q ∈ (a, b) :: ps, y ∈ q.1.all ∨ y ∈ q.2.all) ∧ y ≠ x := fun p hp y hy hm => by
   obtain ⟨q, hq, rfl⟩ := List.mem_map.1 hp;have ht : y ∈ t.all → (∃ q ∈ (a, b) :: ps, y ∈ q.1.all ∨ y ∈ q.2.all) ∧ y ≠ x := fun hyt => by
    refine ⟨⟨(a, b), List.mem_cons_self .., ?_⟩, fun e => hc.out (e ▸ hyt)⟩;rcases hc.pair with ⟨-, rfl⟩ | ⟨-, rfl⟩
    ·exact .inr hyt
    ·exact .inl hyt
   obtain ⟨c1, c2⟩ := hps q hq;rcases hm with hm | hm
   ·rcases qgm hy q.1 (qay.1 c1).1 hm with ⟨m1, m2⟩ | m1
    ·exact ⟨⟨q, List.mem_cons_of_mem _ hq, .inl m1⟩, m2⟩
    ·exact ht m1
   ·rcases qgm hy q.2 (qay.1 c2).1 hm with ⟨m1, m2⟩ | m1
    ·exact ⟨⟨q, List.mem_cons_of_mem _ hq, .inr m1⟩, m2⟩
    ·exact ht m1
  have hcnt : cntU L (ps.map (putP x t)) < cntU L ((a, b) :: ps) := qjy (fun y hyL hy => by
    obtain ⟨p, hp, h2⟩ := qct.1 hy;exact qct.2 (hback p hp y (hL y hyL) h2).1) ⟨x, hxL, qct.2 ⟨(a, b), List.mem_cons_self .., by rcases hc.pair with ⟨rfl, -⟩ | ⟨rfl, -⟩; exact .inl (mem_self _); exact .inr (mem_self _)⟩, by
     rw [Bool.eq_false_iff];intro hx;obtain ⟨p, hp, h2⟩ := qct.1 hx;exact (hback p hp x hc.var h2).2 rfl⟩
  refine ⟨⟨g1, g2, fun p hp y hy hm => ?_, ?_, by rw [List.length_append, List.length_map, List.length_singleton]; omega⟩, .inl hcnt⟩
  ·obtain ⟨q, hq, h2⟩ := (hback p hp y hy hm).1;exact h.vars q hq y hy h2
  ·refine ⟨[], ps.map (putP x t), rfl, by simp [Tm.sizes], ?_⟩;rw [List.length_map];have h3 := qd0 (A.map (·.1));rw [List.length_map] at h3;have h4 := congrArg List.length eAB;rw [List.length_cons, List.length_append] at h4;omega
theorem getS_notU {x : Tm} {s : List Bd} (h : ∀ b ∈ s, b.1 ≠ x) : getS s x = x := (qij h).1
def qcy (r : Int × List Bd) : List Bd × Int := (if r.1 = 0 then qg4 r.2 else [], r.1)
end Go.Proofs.YtpjmdilpldaapaaGreatDoor
namespace Go.Proofs.YtpjmdilpldaapaaGreatDoor
open Go.RowKit Go.Maps
def RV : Value → Option (DataW Value × List MemPlace) := fun v => some (.held v, [])
def keyV (x : Tm) : Value := .agg #[.string x.name, .int .i64 x.sort]
def qbl (x : Tm) : Prop := x.name.size ≤ maxLen ∧ 0 ≤ x.sort ∧ x.sort ≤ 5
theorem qjh : Keyed Tryz.prog 66 := Keyed.of_law (deep_law_laid laidOut (m := 5) (by decide) (of_decide_eq_true (by kernel_rfl)) (by kernel_rfl) (by kernel_rfl))
def keyL (x : Tm) : Lit := .string (keyBytes [.string x.name.data.toList, .int .i64 x.sort])
theorem fieldsI : ∃ f0 f1 : Field, Tryz.prog.underlying 66 = some (.struct #[f0, f1]) ∧ (f0.type = 9 ∧ f0.offset = 0 ∧ (f0.name != "_") = true) ∧ (f1.type = 3 ∧ f1.offset = 1 ∧ (f1.name != "_") = true) :=
 ⟨_, _, Tryz.underlying66, ⟨rfl, rfl, by decide⟩, ⟨rfl, rfl, by decide⟩⟩
theorem lits_one {d : Nat} {x : Tm} (h : qbl x) : Tryz.prog.keyLits (d + 1) 9 [.string x.name] = some [.string x.name.data.toList] ∧ Tryz.prog.keyLits (d + 1) 3 [.int .i64 x.sort] = some [.int .i64 x.sort] := by
 constructor
 ·unfold Program.keyLits;rw [Tryz.underlying9];exact if_pos h.1
 ·unfold Program.keyLits;rw [Tryz.underlying3];refine if_pos ⟨rfl, ?_⟩;have := h.2;have e : (Lit.int IntKind.i64 x.sort).wf = (decide (IntKind.i64.min ≤ x.sort) && decide (x.sort ≤ IntKind.i64.max)) := rfl;rw [e, Bool.and_eq_true, decide_eq_true_eq, decide_eq_true_eq];exact ⟨Int.le_trans (by decide) this.1, Int.le_trans this.2 (by decide)⟩
theorem qea {x : Tm} (h : qbl x) : keyOf Tryz.prog 66 (keyV x) = some (keyL x) := by
 obtain ⟨f0, f1, hu, ⟨t0, o0, n0⟩, ⟨t1, o1, n1⟩⟩ := fieldsI;have hc : Tryz.prog.cellsOf 66 = 2 := by kernel_rfl
 have hc0 : Tryz.prog.cellsOf 9 = 1 := by kernel_rfl
 have hc1 : Tryz.prog.cellsOf 3 = 1 := by kernel_rfl
 have hk : Tryz.prog.keyType 66 = true := by kernel_rfl
 obtain ⟨d, hd⟩ : ∃ d, Tryz.prog.types.size = d + 1 := ⟨Tryz.prog.types.size - 1, by have : 0 < Tryz.prog.types.size := of_decide_eq_true (by kernel_rfl); omega⟩;have hf : (keyV x).formed Tryz.prog 66 = true := by
  unfold keyV Value.formed;rw [hu, hc]; rfl
 have hl : Tryz.prog.keyLits (Tryz.prog.types.size + 1) 66 (keyV x).cells.toList = some [.string x.name.data.toList, .int .i64 x.sort] := by
  unfold Program.keyLits;rw [hu];obtain ⟨a, b⟩ := lits_one (d := d) h;have e : (keyV x).cells.toList = [.string x.name, .int .i64 x.sort] := rfl;rw [e, hc, hd];simp [n0, n1, t0, t1, o0, o1, hc0, hc1, a, b]
 unfold keyOf;rw [hu];dsimp only;rw [hk, hf, hl];rfl
theorem key_inj {x y : Tm} (hx : qbl x) (hy : qbl y) (h : keyL x = keyL y) : x.name = y.name ∧ x.sort = y.sort := by
 have := qjh.inj (qea hx) (by rw [h]; exact qea hy);unfold keyV at this;simpa using this
def qba (w : World) (b n : Nat) (F : Tm → Option Value) : Prop :=
 ∃ D, w.ownsMap Tryz.prog 66 RV b n D ∧ ∀ x, qbl x → Maps.has D (keyL x) = (F x).isSome ∧ ∀ v zd, F x = some v → D.atKey (keyL x) zd = .held v
theorem qba.below {w w' : World} {b n : Nat} {F : Tm → Option Value} (h : qba w b n F) (hb : ∀ k, k < w.heap.size → w'.heap[k]? = w.heap[k]?) : qba w' b n F := by
 obtain ⟨D, ⟨es, clock, h1, h2⟩, h3⟩ := h;exact ⟨D, ⟨es, clock, by rw [hb b (Array.getElem?_eq_some_iff.1 h1).1]; exact h1, h2⟩, h3⟩
theorem qba.keep {w w' : World} {b n : Nat} {F : Tm → Option Value} (h : qba w b n F) (hb : w'.heap[b]? = w.heap[b]?) : qba w' b n F := by
 obtain ⟨D, ⟨es, clock, h1, h2⟩, h3⟩ := h;exact ⟨D, ⟨es, clock, by rw [hb]; exact h1, h2⟩, h3⟩
theorem qba.lt {w : World} {b n : Nat} {F : Tm → Option Value} (h : qba w b n F) : b < w.heap.size := by
 obtain ⟨D, ⟨es, clock, h1, h2⟩, h3⟩ := h;exact (Array.getElem?_eq_some_iff.1 h1).1
theorem qba.congr {w : World} {b n : Nat} {F G : Tm → Option Value} (h : qba w b n F) (he : ∀ x, qbl x → F x = G x) : qba w b n G := by
 obtain ⟨D, h1, h2⟩ := h;exact ⟨D, h1, fun x hx => by rw [← he x hx]; exact h2 x hx⟩
theorem qba.made (w : World) : qba (w.alloc (.map #[] 0)) w.heap.size 0 (fun _ => none) :=
 ⟨.map [], World.ownsMap_made w _ _ _, fun x _ => ⟨rfl, fun v zd h => by cases h⟩⟩
def qh6 : Value := .agg #[.int .i64 0, .string ⟨#[]⟩, .int .i64 0, .slice none 0 0]
theorem qkz (w : World) : (zeroValue 24).run Tryz.prog w = .ok qh6 w := by
 kernel_rfl
theorem qba.look {w : World} {b n : Nat} {F : Tm → Option Value} (h : qba w b n F) {x : Tm} (hx : qbl x) :
  (Instr.lookup 62 (.map (some b)) (keyV x) true).run Tryz.prog w = .ok (.tuple #[(F x).getD qh6, .bool (F x).isSome]) w := by
 obtain ⟨D, h1, h2⟩ := h;obtain ⟨v, ps, hr, hv⟩ := h1.look_ok qjh Tryz.underlying62 (qkz w) (zd := .held qh6) (zp := []) rfl (qea hx);obtain ⟨h3, h4⟩ := h2 x hx;rw [hr, h3];simp only [RV, Option.some.injEq, Prod.mk.injEq] at hv
 cases hF : F x with
 | none =>
  rw [hF] at h3;rw [atKey_of_not_has h3] at hv;have e := DataW.held.inj hv.1;subst e; rfl
 | some u =>
  rw [h4 u _ hF] at hv;have e := DataW.held.inj hv.1;subst e; rfl
theorem qba.store {w : World} {b n : Nat} {F : Tm → Option Value} (h : qba w b n F) (hn : n < maxLen) {x : Tm} (hx : qbl x) (v : Value) :
  ∃ w', (Instr.mapUpdate 62 (.map (some b)) (keyV x) v).run Tryz.prog w = .ok () w' ∧ qba w' b (n + 1) (fun y => if y.name = x.name ∧ y.sort = x.sort then some v else F y) ∧ w.mapTurned w' b := by
 obtain ⟨D, h1, h2⟩ := h;obtain ⟨w', hr, ho, ht⟩ := h1.store qjh Tryz.underlying62 hn (qea hx) (val := v) (d := .held v) (ps := []) rfl;refine ⟨w', hr, ⟨_, ho, fun y hy => ?_⟩, ht⟩;dsimp only;by_cases e : y.name = x.name ∧ y.sort = x.sort
 ·have ek : keyL y = keyL x := by unfold keyL; rw [e.1, e.2]
  have hk := qjh.key (qea hx);rw [if_pos e, ek];exact ⟨has_put_same h1.isMap hk _, fun u zd hu => by have e := Option.some.inj hu; subst e; exact atKey_put_same h1.isMap hk _ _⟩
 ·rw [if_neg e];have hne : keyL y ≠ keyL x := fun h => e (key_inj hy hx h);rw [has_put_other hne];exact ⟨(h2 y hy).1, fun u zd hu => by rw [atKey_put_other hne]; exact (h2 y hy).2 u zd hu⟩
theorem keyedS : Keyed Tryz.prog 9 := string_keyed Tryz.underlying9
def keyS (s : ByteArray) : Lit := .string s.data.toList
theorem qgp {s : ByteArray} (h : s.size ≤ maxLen) : keyOf Tryz.prog 9 (.string s) = some (keyS s) := by
 unfold keyOf;rw [Tryz.underlying9];exact if_pos h
theorem keyS_inj {s t : ByteArray} (h : keyS s = keyS t) : s = t := by
 unfold keyS at h;injection h with h;exact ByteArray.ext (Array.toList_inj.1 h)
def qc5 (w : World) (b n : Nat) (N : List ByteArray) : Prop :=
 ∃ D, w.ownsMap Tryz.prog 9 RV b n D ∧ ∀ s : ByteArray, s.size ≤ maxLen → (s ∈ N ∧ ∀ zd, D.atKey (keyS s) zd = .held (.bool true)) ∨ (s ∉ N ∧ ∀ zd, D.atKey (keyS s) zd = zd)
theorem qc5.keep {w w' : World} {b n : Nat} {N : List ByteArray} (h : qc5 w b n N) (hb : w'.heap[b]? = w.heap[b]?) : qc5 w' b n N := by
 obtain ⟨D, ⟨es, clock, h1, h2⟩, h3⟩ := h;exact ⟨D, ⟨es, clock, by rw [hb]; exact h1, h2⟩, h3⟩
theorem qc5.lt {w : World} {b n : Nat} {N : List ByteArray} (h : qc5 w b n N) : b < w.heap.size := by
 obtain ⟨D, ⟨es, clock, h1, h2⟩, h3⟩ := h;exact (Array.getElem?_eq_some_iff.1 h1).1
theorem qc5.congr {w : World} {b n : Nat} {N M : List ByteArray} (h : qc5 w b n N) (he : ∀ s, s ∈ N ↔ s ∈ M) : qc5 w b n M := by
 obtain ⟨D, h1, h2⟩ := h;exact ⟨D, h1, fun s hs => (h2 s hs).imp (fun h => ⟨(he s).1 h.1, h.2⟩) (fun h => ⟨fun e => h.1 ((he s).2 e), h.2⟩)⟩
theorem qc5.made (w : World) : qc5 (w.alloc (.map #[] 0)) w.heap.size 0 [] :=
 ⟨.map [], World.ownsMap_made w _ _ _, fun s _ => .inr ⟨by simp, fun zd => rfl⟩⟩
theorem zeroB_run (w : World) : (zeroValue 4).run Tryz.prog w = .ok (.bool false) w := by
 kernel_rfl
theorem qc5.look {w : World} {b n : Nat} {N : List ByteArray} (h : qc5 w b n N) {s : ByteArray} (hs : s.size ≤ maxLen) (q : Bool) (hq : q = true ↔ s ∈ N) :
  (Instr.lookup 71 (.map (some b)) (.string s) false).run Tryz.prog w = .ok (.bool q) w := by
 obtain ⟨D, h1, h2⟩ := h;obtain ⟨v, ps, hr, hv⟩ := h1.lookup keyedS Tryz.underlying71 (zeroB_run w) (zd := .held (.bool false)) (zp := []) rfl (qgp hs);rw [hr];simp only [RV, Option.some.injEq, Prod.mk.injEq] at hv;rcases h2 s hs with ⟨h3, h4⟩ | ⟨h3, h4⟩
 ·rw [h4] at hv;have e := DataW.held.inj hv.1;rw [e, hq.2 h3]
 ·rw [h4] at hv;have e := DataW.held.inj hv.1;have hqf : q = false := by
   cases q with
   | false => rfl
   | true => exact absurd (hq.1 rfl) h3
  rw [e, hqf]
theorem qc5.store {w : World} {b n : Nat} {N : List ByteArray} (h : qc5 w b n N) (hn : n < maxLen) {s : ByteArray} (hs : s.size ≤ maxLen) :
  ∃ w', (Instr.mapUpdate 71 (.map (some b)) (.string s) (.bool true)).run Tryz.prog w = .ok () w' ∧ qc5 w' b (n + 1) (s :: N) ∧ w.mapTurned w' b := by
 obtain ⟨D, h1, h2⟩ := h;obtain ⟨w', hr, ho, ht⟩ := h1.store keyedS Tryz.underlying71 hn (qgp hs) (val := .bool true) (d := .held (.bool true)) (ps := []) rfl;refine ⟨w', hr, ⟨_, ho, fun y hy => ?_⟩, ht⟩;by_cases e : y = s
 ·subst e;exact .inl ⟨List.mem_cons_self .., fun zd => atKey_put_same h1.isMap (keyedS.key (qgp hs)) _ _⟩
 ·have hne : keyS y ≠ keyS s := fun h => e (keyS_inj h);rcases h2 y hy with ⟨h3, h4⟩ | ⟨h3, h4⟩
  ·exact .inl ⟨List.mem_cons_of_mem _ h3, fun zd => by rw [atKey_put_other hne]; exact h4 zd⟩
  ·refine .inr ⟨fun h => ?_, fun zd => by rw [atKey_put_other hne]; exact h4 zd⟩;rcases List.mem_cons.1 h with h | h
   ·exact e h
   ·exact h3 h
end Go.Proofs.YtpjmdilpldaapaaGreatDoor
namespace Go.Proofs.YtpjmdilpldaapaaGreatDoor
theorem qc2 (x : Tm) : ∀ s : List Bd, (∃ b ∈ s, b.1 = x ∧ getS s x = b.2) ∨ (getS s x = x ∧ ∀ b ∈ s, b.1 ≠ x)
 | [] => .inr ⟨rfl, by simp⟩
 | b :: r => by
  rw [getS];by_cases h : b.1 = x
  ·rw [if_pos h]; exact .inl ⟨b, by simp, h, rfl⟩
  ·rw [if_neg h];rcases qc2 x r with ⟨c, hc, h1, h2⟩ | ⟨h1, h2⟩
   ·exact .inl ⟨c, List.mem_cons_of_mem _ hc, h1, h2⟩
   ·refine .inr ⟨h1, fun c hc => ?_⟩;rcases List.mem_cons.1 hc with rfl | hc
    ·exact h
    ·exact h2 c hc
theorem qcn {t : Tm} {r : List Tm} (h : Tm.checks (t :: r) = 0) : t.check = 0 ∧ Tm.checks r = 0 :=
 ⟨qb0.1 h t (List.mem_cons_self ..), qb0.2 fun z hz => qb0.1 h z (List.mem_cons_of_mem _ hz)⟩
theorem qm0 (t : Tm) : 1 ≤ t.depth := by cases t; rw [Tm.depth]; omega
theorem check_valid {t : Tm} (h : t.valid = 0) : t.check = 0 := (qay.1 h).1
theorem put_nv {s : List Bd} {t : Tm} (hk : t.kind ≠ 1) : t.put s = .mk t.kind t.name t.sort (Tm.puts s t.kids) := by
 obtain ⟨kd, n, so, l⟩ := t;have hk : kd ≠ 1 := hk;rw [Tm.put, if_neg hk]; rfl
def FitS (τ : List Bd) : Prop := ∀ b ∈ τ, b.2.check = 0 ∧ (b.1.sort = 0 ∨ (b.2.kind ≠ 3 ∧ b.2.sort = b.1.sort))
theorem FitS.check {τ : List Bd} (h : FitS τ) : ∀ b ∈ τ, b.2.check = 0 := fun b hb => (h b hb).1
theorem FitS.sort {τ : List Bd} (h : FitS τ) {x : Tm} (hk : x.kind = 1) (hs : x.sort ≠ 0) : (x.put τ).sort = x.sort ∧ (x.put τ).kind ≠ 3 := by
 rw [put_var hk];rcases qc2 x τ with ⟨b, hb, e1, e2⟩ | ⟨e, -⟩
 ·rw [e2];rcases (h b hb).2 with h0 | ⟨h1, h2⟩
  ·rw [e1] at h0; exact absurd h0 hs
  ·rw [e1] at h2; exact ⟨h2, h1⟩
 ·rw [e]; exact ⟨rfl, by omega⟩
theorem qkn {t : Tm} (h : t.valid = 0) : (t.kind = 1 ∧ t.kids = []) ∨ (t.kind = 2 ∧ t.kids = []) ∨ t.kind = 3 := by
 obtain ⟨kd, n, so, l⟩ := t;rcases qc4 (check_valid h) with ⟨h1 | h1, h2⟩ | ⟨h1, -, -⟩
 ·exact .inl ⟨h1, h2⟩
 ·exact .inr (.inl ⟨h1, h2⟩)
 ·exact .inr (.inr h1)
theorem qmz : ∀ a b : Nat, Lib.decDigits a = Lib.decDigits b → a = b := by
 intro a
 induction a using Nat.strongRecOn with
 | _ a ih =>
  intro b h;have hp : ∀ n : Nat, 1 ≤ (Lib.decDigits n).length := fun n => by
   rw [Lib.decDigits]; split <;> simp
  have hc : ∀ x y : Nat, x < 10 → y < 10 → UInt8.ofNat (48 + x) = UInt8.ofNat (48 + y) → x = y := fun x y hx hy h => by
   have := congrArg UInt8.toNat h;rw [UInt8.toNat_ofNat', UInt8.toNat_ofNat'] at this; omega
  by_cases ha : a < 10
  ·by_cases hb : b < 10
   ·rw [Lib.decDigits_one ha, Lib.decDigits_one hb] at h;exact hc a b ha hb (by injection h)
   ·rw [Lib.decDigits_one ha] at h;rw [Lib.decDigits, dif_neg hb] at h;have h5 := congrArg List.length h;have h6 := hp (b / 10);rw [List.length_append] at h5;simp only [List.length_singleton] at h5; omega
  ·by_cases hb : b < 10
   ·rw [Lib.decDigits_one hb, Lib.decDigits, dif_neg ha] at h;have h5 := congrArg List.length h;have h6 := hp (a / 10);rw [List.length_append] at h5;simp only [List.length_singleton] at h5; omega
   ·have ea : Lib.decDigits a = Lib.decDigits (a / 10) ++ [UInt8.ofNat (48 + a % 10)] := by rw [Lib.decDigits, dif_neg ha]
    have eb : Lib.decDigits b = Lib.decDigits (b / 10) ++ [UInt8.ofNat (48 + b % 10)] := by rw [Lib.decDigits, dif_neg hb]
    rw [ea, eb] at h;have h1 := List.append_inj' h (by simp);have h2 := ih (a / 10) (by omega) (b / 10) h1.1;have h3 := hc (a % 10) (b % 10) (by omega) (by omega) (by have := h1.2; injection this);omega
def qax (n : Nat) : ByteArray := (⟨#[103]⟩ : ByteArray) ++ ⟨(Lib.decDigits n).toArray⟩
theorem qhq (n : Nat) : (qax n).data.toList = 103 :: Lib.decDigits n := by
 unfold qax;simp [ByteArray.data_append]
theorem qjl {a b : Nat} (h : qax a = qax b) : a = b := by
 have := congrArg (fun x : ByteArray => x.data.toList) h;simp only [qhq] at this;injection this with _ h;exact qmz a b h
instance decMemN (x : ByteArray) (N : List ByteArray) : Decidable (x ∈ N) := decidable_of_iff (N.any (fun y => decide (x = y)) = true) (by simp)
def qjx (N : List ByteArray) : Nat → Nat → Nat
 | 0, n => n
 | k + 1, n => if qax n ∈ N then qjx N k (n + 1) else n
def qa9 (N : List ByteArray) (n : Nat) : Nat := qjx N N.length n
theorem fresh_ex : ∀ (k : Nat) (N : List ByteArray) (n : Nat), N.length ≤ k → ∃ m, n ≤ m ∧ m ≤ n + N.length ∧ qax m ∉ N ∧ ∀ i, n ≤ i → i < m → qax i ∈ N := by
 intro k
 induction k with
 | zero =>
  intro N n h;have : N = [] := List.eq_nil_of_length_eq_zero (by omega);subst this;exact ⟨n, Nat.le_refl _, by simp, by simp, fun i h1 h2 => by omega⟩
 | succ k ih =>
  intro N n h;by_cases hm : qax n ∈ N
  ·have hlt : (N.filter (fun x => decide (x ≠ qax n))).length < N.length := by
    have hpos := List.length_filter_lt_length_iff_exists (p := fun x => decide (x ≠ qax n)) (l := N);exact hpos.2 ⟨qax n, hm, by simp⟩
   obtain ⟨m, h1, h2, h3, h4⟩ := ih (N.filter (fun x => decide (x ≠ qax n))) (n + 1) (by omega);refine ⟨m, by omega, by omega, fun h => h3 (List.mem_filter.2 ⟨h, ?_⟩), fun i g1 g2 => ?_⟩
   ·simp only [ne_eq, decide_eq_true_eq];intro e;have := qjl e; omega
   ·by_cases hi : i = n
    ·rw [hi]; exact hm
    ·exact (List.mem_filter.1 (h4 i (by omega) g2)).1
  ·exact ⟨n, Nat.le_refl _, by omega, hm, fun i h1 h2 => by omega⟩
theorem qjw (N : List ByteArray) (m : Nat) (hm : qax m ∉ N) : ∀ (k n : Nat), n ≤ m → m ≤ n + k → (∀ i, n ≤ i → i < m → qax i ∈ N) → qjx N k n = m
 | 0, n, h1, h2, _ => by rw [qjx]; omega
 | k + 1, n, h1, h2, h => by
  rw [qjx];by_cases e : n = m
  ·rw [if_neg (by rw [e]; exact hm)]; exact e
  ·rw [if_pos (h n (Nat.le_refl _) (by omega))];exact qjw N m hm k (n + 1) (by omega) (by omega) fun i g1 g2 => h i (by omega) g2
theorem qbq (N : List ByteArray) (n : Nat) : n ≤ qa9 N n ∧ qa9 N n ≤ n + N.length ∧ qax (qa9 N n) ∉ N ∧ ∀ i, n ≤ i → i < qa9 N n → qax i ∈ N := by
 obtain ⟨m, h1, h2, h3, h4⟩ := fresh_ex N.length N n (Nat.le_refl _);have e : qa9 N n = m := qjw N m h3 _ n h1 h2 h4;rw [e]; exact ⟨h1, h2, h3, h4⟩
theorem qft {N N' : List ByteArray} (h : ∀ x, x ∈ N ↔ x ∈ N') (n : Nat) : qa9 N n = qa9 N' n := by
 obtain ⟨h1, h2, h3, h4⟩ := qbq N n;obtain ⟨g1, g2, g3, g4⟩ := qbq N' n;rcases Nat.lt_trichotomy (qa9 N n) (qa9 N' n) with k | k | k
 ·exact absurd ((h _).2 (g4 _ h1 k)) h3
 ·exact k
 ·exact absurd ((h _).1 (h4 _ g1 k)) g3
structure Gs where
 next : Nat
 pairs : List Bd
 vars : List Tm
def lookG (t u : Tm) : List Bd → List Tm → Option Tm
 | p :: ps, v :: vs => if p.1 = t ∧ p.2 = u then some v else lookG t u ps vs
 | _, _ => none
def newG (N : List ByteArray) (t u : Tm) (g : Gs) : Tm := .mk 1 (qax (qa9 N g.next)) (if t.sort = u.sort then t.sort else 0) []
def addG (N : List ByteArray) (t u : Tm) (g : Gs) : Gs := ⟨qa9 N g.next + 1, g.pairs ++ [(t, u)], g.vars ++ [newG N t u g]⟩
def qbz (N : List ByteArray) (t u : Tm) (g : Gs) : Tm × Gs := match lookG t u g.pairs g.vars with
 | some v => (v, g)
 | none => (newG N t u g, addG N t u g)
mutual
def Tm.gen (N : List ByteArray) : Tm → Tm → Gs → Tm × Gs
 | .mk k n s l, u, g => if Tm.mk k n s l = u then (.mk k n s l, g) else if qa1 (.mk k n s l) u = true then (.mk k n s (Tm.gens N l u.kids g).1, (Tm.gens N l u.kids g).2) else qbz N (.mk k n s l) u g
def Tm.gens (N : List ByteArray) : List Tm → List Tm → Gs → List Tm × Gs
 | t :: l, u :: m, g => ((Tm.gen N t u g).1 :: (Tm.gens N l m (Tm.gen N t u g).2).1, (Tm.gens N l m (Tm.gen N t u g).2).2)
 | _, _, g => ([], g)
end
theorem gen_eq (N : List ByteArray) (t u : Tm) (g : Gs) : t.gen N u g = if t = u then (t, g) else if qa1 t u = true then (.mk t.kind t.name t.sort (Tm.gens N t.kids u.kids g).1, (Tm.gens N t.kids u.kids g).2) else qbz N t u g := by
 obtain ⟨k, n, s, l⟩ := t;rw [Tm.gen]; rfl
theorem qgt (N : List ByteArray) : ∀ (l m : List Tm) (t u : Tm) (g : Gs), l.length = m.length →
  Tm.gens N (l ++ [t]) (m ++ [u]) g = ((Tm.gens N l m g).1 ++ [(t.gen N u (Tm.gens N l m g).2).1], (t.gen N u (Tm.gens N l m g).2).2)
 | [], [], t, u, g, _ => by simp [Tm.gens]
 | a :: l, b :: m, t, u, g, h => by
  rw [List.cons_append, List.cons_append, Tm.gens, qgt N l m t u _ (by simpa using h), Tm.gens];rfl
structure GsOk (N : List ByteArray) (g : Gs) : Prop where
 len : g.vars.length = g.pairs.length
 next : g.next ≤ (N.length + 1) * g.pairs.length
 var : ∀ v ∈ g.vars, ∃ m s, m < g.next ∧ qax m ∉ N ∧ v = .mk 1 (qax m) s []
 apart : g.vars.Pairwise (fun a b => a.name ≠ b.name)
 sorts : ∀ q ∈ g.pairs.zip g.vars, q.2.sort = if q.1.1.sort = q.1.2.sort then q.1.1.sort else 0
theorem qe4 {N : List ByteArray} {g : Gs} (h : GsOk N g) (t u : Tm) : GsOk N (qbz N t u g).2 ∧ g.pairs.length ≤ (qbz N t u g).2.pairs.length ∧ (qbz N t u g).2.pairs.length ≤ g.pairs.length + 1 ∧ g.next ≤ (qbz N t u g).2.next ∧
  (∃ m s, m < (qbz N t u g).2.next ∧ qax m ∉ N ∧ (qbz N t u g).1 = .mk 1 (qax m) s []) ∧ (qbz N t u g).1 ∈ (qbz N t u g).2.vars := by
 have hl : ∀ (ps : List Bd) (vs : List Tm) (v : Tm), lookG t u ps vs = some v → v ∈ vs := by
  intro ps
  induction ps with
  | nil => intro vs v h; simp [lookG] at h
  | cons p ps ih =>
   intro vs v h
   cases vs with
   | nil => simp [lookG] at h
   | cons w vs =>
    rw [lookG] at h
    split at h
    ·rw [← Option.some.inj h]; exact List.mem_cons_self ..
    ·exact List.mem_cons_of_mem _ (ih vs v h)
 unfold qbz
 split
 ·rename_i v hv
  have hm := hl _ _ _ hv;exact ⟨h, Nat.le_refl _, Nat.le_succ _, Nat.le_refl _, h.var v hm, hm⟩
 ·obtain ⟨h1, h2, hf, -⟩ := qbq N g.next;have hn := h.next;refine ⟨⟨by simp [addG, h.len], ?_, fun v hv => ?_, ?_, fun q hq => ?_⟩, by simp [addG], by simp [addG], by simp only [addG]; omega, ⟨_, _, by simp only [addG]; exact Nat.lt_succ_self _, hf, rfl⟩, by simp [addG]⟩
  ·simp only [addG, List.length_append, List.length_singleton];rw [Nat.mul_succ]; omega
  ·rcases List.mem_append.1 hv with hv | hv
   ·obtain ⟨m, s, h4, h5⟩ := h.var v hv;exact ⟨m, s, by simp only [addG]; omega, h5⟩
   ·rw [List.mem_singleton] at hv;exact ⟨_, _, by simp only [addG]; exact Nat.lt_succ_self _, hf, hv⟩
  ·refine List.pairwise_append.2 ⟨h.apart, List.pairwise_singleton .., fun v hv w hw => ?_⟩;rw [List.mem_singleton] at hw;obtain ⟨m, s, h4, -, h5⟩ := h.var v hv;rw [hw, h5];show qax m ≠ qax (qa9 N g.next);intro e;have := qjl e; omega
  ·have hz : (addG N t u g).pairs.zip (addG N t u g).vars = g.pairs.zip g.vars ++ [((t, u), newG N t u g)] := by
    show (g.pairs ++ [(t, u)]).zip (g.vars ++ [newG N t u g]) = _;rw [List.zip_append h.len.symm]; rfl
   rw [hz] at hq;rcases List.mem_append.1 hq with hq | hq
   ·exact h.sorts q hq
   ·rw [List.mem_singleton] at hq;rw [hq]; rfl
mutual
theorem qfs {N : List ByteArray} : ∀ (t u : Tm) (g : Gs), GsOk N g → GsOk N (t.gen N u g).2 ∧ g.pairs.length ≤ (t.gen N u g).2.pairs.length ∧ (t.gen N u g).2.pairs.length ≤ g.pairs.length + t.size ∧ g.next ≤ (t.gen N u g).2.next
 | .mk k n s l, u, g, h => by
  rw [Tm.gen]
  split
  ·exact ⟨h, Nat.le_refl _, Nat.le_add_right _ _, Nat.le_refl _⟩
  ·split
   ·obtain ⟨h1, h2, h3, h4⟩ := qik l u.kids g h;refine ⟨h1, h2, ?_, h4⟩;rw [Tm.size]; dsimp only; omega
   ·obtain ⟨h1, h2, h3, h4, -, -⟩ := qe4 h (.mk k n s l) u;refine ⟨h1, h2, ?_, h4⟩;rw [Tm.size]; omega
theorem qik {N : List ByteArray} : ∀ (l m : List Tm) (g : Gs), GsOk N g → GsOk N (Tm.gens N l m g).2 ∧ g.pairs.length ≤ (Tm.gens N l m g).2.pairs.length ∧ (Tm.gens N l m g).2.pairs.length ≤ g.pairs.length + Tm.sizes l ∧ g.next ≤ (Tm.gens N l m g).2.next
 | [], m, g, h => by cases m <;> (rw [Tm.gens]; exact ⟨h, Nat.le_refl _, Nat.le_add_right _ _, Nat.le_refl _⟩; try simp)
 | t :: l, [], g, h => by rw [Tm.gens]; exact ⟨h, Nat.le_refl _, Nat.le_add_right _ _, Nat.le_refl _⟩; simp
 | t :: l, u :: m, g, h => by
  rw [Tm.gens, Tm.sizes];obtain ⟨h1, h2, h3, h4⟩ := qfs t u g h;obtain ⟨g1, g2, g3, g4⟩ := qik l m _ h1;exact ⟨g1, by dsimp only; omega, by dsimp only; omega, by dsimp only; omega⟩
end
def gs0 : Gs := ⟨0, [], []⟩
theorem qeh (N : List ByteArray) : GsOk N gs0 := ⟨rfl, by simp [gs0], by simp [gs0], by simp [gs0], by simp [gs0]⟩
theorem qgs (N : List ByteArray) : ∀ (l m : List Tm) (g : Gs), l.length = m.length → (Tm.gens N l m g).1.length = l.length
 | [], [], _, _ => rfl
 | t :: l, u :: m, g, h => by rw [Tm.gens]; simp [qgs N l m _ (by simpa using h)]
mutual
theorem qk5 {N : List ByteArray} : ∀ (t u : Tm) (g : Gs), GsOk N g → (t.gen N u g).1.size ≤ t.size
 | .mk k n s l, u, g, h => by
  rw [Tm.gen]
  split
  ·exact Nat.le_refl _
  ·split
   ·rw [Tm.size, Tm.size]; have := qi6 l u.kids g h; omega
   ·obtain ⟨m, s', -, -, e⟩ := (qe4 h (.mk k n s l) u).2.2.2.2.1;rw [e];have h1 : (Tm.mk 1 (qax m) s' []).size = 1 := rfl;rw [h1]; exact qey _
theorem qi6 {N : List ByteArray} : ∀ (l m : List Tm) (g : Gs), GsOk N g → Tm.sizes (Tm.gens N l m g).1 ≤ Tm.sizes l
 | [], m, g, h => by cases m <;> (rw [Tm.gens]; exact Nat.le_refl _; try simp)
 | t :: l, [], g, h => by rw [Tm.gens]; exact Nat.zero_le _; simp
 | t :: l, u :: m, g, h => by
  rw [Tm.gens, Tm.sizes, Tm.sizes];have := qk5 t u g h;have := qi6 l m _ (qfs t u g h).1;omega
end
mutual
def Tm.mat : Tm → Tm → List Bd → List Bd × Bool
 | .mk k n s l, t, m => if k = 1 then (if hasS m (.mk k n s l) = true then (m, decide (getS m (.mk k n s l) = t)) else (m ++ [(.mk k n s l, t)], fits (.mk k n s l) t))
  else if qa1 (.mk k n s l) t = true then Tm.mats l t.kids m else (m, decide (Tm.mk k n s l = t))
def Tm.mats : List Tm → List Tm → List Bd → List Bd × Bool
 | p :: l, t :: r, m => if (Tm.mat p t m).2 = true then Tm.mats l r (Tm.mat p t m).1 else ((Tm.mat p t m).1, false)
 | _, _, m => (m, true)
end
theorem mat_eq (p t : Tm) (m : List Bd) : p.mat t m = if p.kind = 1 then (if hasS m p = true then (m, decide (getS m p = t)) else (m ++ [(p, t)], fits p t)) else if qa1 p t = true then Tm.mats p.kids t.kids m else (m, decide (p = t)) := by
 obtain ⟨k, n, s, l⟩ := p;rw [Tm.mat]; rfl
def qmy (x t : Tm) : Bool := decide (x.sort = 0) || (decide (t.kind ≠ 3) && decide (t.sort = x.sort))
theorem qhx {x t : Tm} (hx : x.valid = 0) (hk : x.kind = 1) (ht : t.valid = 0) : fits x t = qmy x t := by
 unfold fits qmy; simp [hx, hk, ht]
def consU (l : List Bd) : Prop := ∀ a ∈ l, ∀ b ∈ l, a.1 = b.1 → a.2 = b.2
instance (l : List Bd) : Decidable (consU l) := by unfold consU; infer_instance
theorem qcm {s : List Bd} {x : Tm} : hasS s x = true ↔ ∃ b ∈ s, b.1 = x := by
 induction s with
 | nil => simp [hasS]
 | cons b r ih =>
  rw [hasS];by_cases h : b.1 = x
  ·simp [h]
  ·simp only [h, if_false, ih, List.mem_cons, exists_eq_or_imp, false_or]
theorem qjn {m r : List Bd} {x : Tm} (h : hasS m x = true) : getS (m ++ r) x = getS m x := by
 induction m with
 | nil => simp [hasS] at h
 | cons b m ih =>
  rw [hasS] at h;rw [List.cons_append, getS, getS];by_cases e : b.1 = x
  ·rw [if_pos e, if_pos e]
  ·rw [if_neg e] at h;rw [if_neg e, if_neg e, ih h]
theorem qfl {m : List Bd} {x t : Tm} (h : ¬ hasS m x = true) : getS (m ++ [(x, t)]) x = t := by
 induction m with
 | nil => simp [getS]
 | cons b m ih =>
  rw [hasS] at h;by_cases e : b.1 = x
  ·rw [if_pos e] at h; exact absurd rfl h
  ·rw [if_neg e] at h;rw [List.cons_append, getS, if_neg e, ih h]
def Ext (m m' : List Bd) : Prop := ∃ r, m' = m ++ r
theorem Ext.refl (m : List Bd) : Ext m m := ⟨[], by simp⟩
theorem Ext.trans {a b c : List Bd} (h : Ext a b) (k : Ext b c) : Ext a c := by
 obtain ⟨r, rfl⟩ := h;obtain ⟨q, rfl⟩ := k;exact ⟨r ++ q, by simp⟩
theorem Ext.has {m m' : List Bd} (h : Ext m m') {x : Tm} (hx : hasS m x = true) : hasS m' x = true := by
 obtain ⟨r, rfl⟩ := h;obtain ⟨b, hb, e⟩ := qcm.1 hx;exact qcm.2 ⟨b, List.mem_append_left _ hb, e⟩
theorem Ext.get {m m' : List Bd} (h : Ext m m') {x : Tm} (hx : hasS m x = true) : getS m' x = getS m x := by
 obtain ⟨r, rfl⟩ := h;exact qjn hx
def qg1 (m : List Bd) (t : Tm) : Prop := ∀ x ∈ t.all, x.kind = 1 → hasS m x = true
mutual
theorem put_ext {m m' : List Bd} (h : Ext m m') : ∀ t : Tm, qg1 m t → t.put m' = t.put m
 | .mk k n s l, hb => by
  rw [Tm.put, Tm.put]
  split
  ·rename_i hk; exact h.get (hb _ (mem_self _) hk)
  ·rw [qlg h l fun k hk x hx => hb x (qcz hk hx)]
theorem qlg {m m' : List Bd} (h : Ext m m') : ∀ l : List Tm, (∀ t ∈ l, qg1 m t) → Tm.puts m' l = Tm.puts m l
 | [], _ => rfl
 | t :: r, hb => by rw [Tm.puts, Tm.puts, put_ext h t (hb t (List.mem_cons_self ..)), qlg h r fun k hk => hb k (List.mem_cons_of_mem _ hk)]
end
theorem qg1.ext {m m' : List Bd} {t : Tm} (h : qg1 m t) (he : Ext m m') : qg1 m' t := fun x hx hk => he.has (h x hx hk)
structure MatOk (m : List Bd) : Prop where
 vars : ∀ b ∈ m, b.1.kind = 1 ∧ b.1.valid = 0 ∧ b.2.valid = 0 ∧ qmy b.1 b.2 = true
 apart : qbs m
theorem MatOk.fit {m : List Bd} (h : MatOk m) : FitS m := fun b hb => by
 obtain ⟨-, -, h2, h3⟩ := h.vars b hb;refine ⟨check_valid h2, ?_⟩;unfold qmy at h3;simpa using h3
mutual
theorem mat_ext : ∀ (p t : Tm) (m : List Bd), Ext m (p.mat t m).1
 | .mk k n s l, t, m => by
  rw [Tm.mat]
  split
  ·split
   ·exact Ext.refl _
   ·exact ⟨_, rfl⟩
  ·split
   ·exact qie l t.kids m
   ·exact Ext.refl _
theorem qie : ∀ (l r : List Tm) (m : List Bd), Ext m (Tm.mats l r m).1
 | [], r, m => by rw [Tm.mats]; exact Ext.refl _; simp
 | p :: l, [], m => by rw [Tm.mats]; exact Ext.refl _; simp
 | p :: l, t :: r, m => by
  rw [Tm.mats]
  split
  ·exact (mat_ext p t m).trans (qie l r _)
  ·exact mat_ext p t m
end
mutual
theorem qgo : ∀ (p t : Tm) (m : List Bd), p.valid = 0 → t.valid = 0 → MatOk m → (p.mat t m).2 = true → MatOk (p.mat t m).1 ∧ qg1 (p.mat t m).1 p ∧ p.put (p.mat t m).1 = t
 | .mk k n s l, t, m, hp, ht, hm, h => by
  rw [Tm.mat] at h ⊢;by_cases hk : k = 1
  ·rw [if_pos hk] at h ⊢;have hall := var_all hp hk;by_cases hh : hasS m (.mk k n s l) = true
   ·rw [if_pos hh] at h ⊢;refine ⟨hm, fun x hx _ => ?_, ?_⟩
    ·rw [hall, List.mem_singleton] at hx; rw [hx]; exact hh
    ·rw [put_var (x := .mk k n s l) hk]; simpa using h
   ·rw [if_neg hh] at h ⊢;refine ⟨⟨fun b hb => ?_, ?_⟩, fun x hx _ => ?_, ?_⟩
    ·rcases List.mem_append.1 hb with hb | hb
     ·exact hm.vars b hb
     ·rw [List.mem_singleton] at hb; subst hb;exact ⟨hk, hp, ht, by rw [← qhx hp hk ht]; exact h⟩
    ·refine List.pairwise_append.2 ⟨hm.apart, List.pairwise_singleton .., fun b hb c hc => ?_⟩;rw [List.mem_singleton] at hc; subst hc;exact fun e => hh (qcm.2 ⟨b, hb, e⟩)
    ·rw [hall, List.mem_singleton] at hx; rw [hx];exact qcm.2 ⟨_, List.mem_append_right _ (List.mem_singleton.2 rfl), rfl⟩
    ·rw [put_var (x := .mk k n s l) hk]; exact qfl hh
  ·rw [if_neg hk] at h ⊢;by_cases ha : qa1 (.mk k n s l) t = true
   ·rw [if_pos ha] at h ⊢;obtain ⟨k1, k2, hn, hl⟩ := qa0.1 ha;have k1 : k = 3 := k1;have hl : l.length = t.kids.length := hl;obtain ⟨h1, h2, h3⟩ := qhl l t.kids m hl (fun x hx => qat hp hx) (fun x hx => qat ht hx) hm h;refine ⟨h1, fun x hx hxk => ?_, ?_⟩
    ·rw [Tm.all] at hx;rcases List.mem_cons.1 hx with e | hx
     ·rw [e] at hxk; exact absurd hxk hk
     ·obtain ⟨u, hu, hxu⟩ := qdh.1 hx;exact h2 u hu x hxu hxk
    ·rw [Tm.put, if_neg hk, h3];have e1 := qcw ht k2;have e2 : s = 0 := qcw hp (by exact k1);have hn' : n = t.name := hn;have k2' : t.kind = 3 := k2;rw [hn', k1, e2, ← k2']
     conv => lhs; rw [← e1]
     cases t; rfl
   ·rw [if_neg ha] at h ⊢;have e : Tm.mk k n s l = t := by simpa using h
    subst e;refine ⟨hm, ?_⟩;have hl0 : l = [] := by
     rcases qc4 (check_valid hp) with ⟨-, h0⟩ | ⟨h3, -, -⟩
     ·exact h0
     ·exact absurd (qa0.2 ⟨by exact h3, by exact h3, rfl, rfl⟩) ha
    subst hl0;refine ⟨fun x hx hxk => ?_, by rw [Tm.put, if_neg hk]; rfl⟩;rw [Tm.all, Tm.alls, List.mem_singleton] at hx;rw [hx] at hxk; exact absurd hxk hk
theorem qhl : ∀ (l r : List Tm) (m : List Bd), l.length = r.length → (∀ x ∈ l, x.valid = 0) → (∀ x ∈ r, x.valid = 0) → MatOk m → (Tm.mats l r m).2 = true → MatOk (Tm.mats l r m).1 ∧ (∀ p ∈ l, qg1 (Tm.mats l r m).1 p) ∧ Tm.puts (Tm.mats l r m).1 l = r
 | [], [], m, _, _, _, hm, _ => by rw [Tm.mats]; exact ⟨hm, by simp, rfl⟩; simp
 | p :: l, t :: r, m, hl, hp, ht, hm, h => by
  rw [Tm.mats] at h ⊢
  split at h
  ·rename_i h1
   rw [if_pos h1];obtain ⟨a1, a2, a3⟩ := qgo p t m (hp p (List.mem_cons_self ..)) (ht t (List.mem_cons_self ..)) hm h1;obtain ⟨b1, b2, b3⟩ := qhl l r _ (by simpa using hl) (fun x hx => hp x (List.mem_cons_of_mem _ hx)) (fun x hx => ht x (List.mem_cons_of_mem _ hx)) a1 h;have he := qie l r (Tm.mat p t m).1;refine ⟨b1, fun q hq => ?_, ?_⟩
   ·rcases List.mem_cons.1 hq with rfl | hq
    ·exact a2.ext he
    ·exact b2 q hq
   ·rw [Tm.puts, b3, put_ext he p a2, a3]
  ·cases h
end
def Agrees (m τ : List Bd) : Prop := ∀ b ∈ m, b.2 = b.1.put τ
theorem Agrees.get {m τ : List Bd} (h : Agrees m τ) {x : Tm} (hx : hasS m x = true) : getS m x = x.put τ := by
 rcases qc2 x m with ⟨b, hb, e1, e2⟩ | ⟨-, h2⟩
 ·rw [e2, h b hb, e1]
 ·obtain ⟨b, hb, e⟩ := qcm.1 hx;exact absurd e (h2 b hb)
theorem fit3_of {x : Tm} {τ : List Bd} (hk : x.kind = 1) (hf : FitS τ) : qmy x (x.put τ) = true := by
 unfold qmy;by_cases h0 : x.sort = 0
 ·simp [h0]
 ·obtain ⟨h1, h2⟩ := hf.sort hk h0;simp [h1, h2]
theorem qf4 {t : Tm} {s : List Bd} (h1 : t.kind ≠ 1) (h2 : t.kids = []) : t.put s = t := by
 obtain ⟨k, n, so, l⟩ := t;have h1' : k ≠ 1 := h1;have h2' : l = [] := h2;subst h2';rw [Tm.put, if_neg h1']; rfl
theorem alike_put {p : Tm} {τ : List Bd} (h : p.kind = 3) : qa1 p (p.put τ) = true := by
 rw [put_app h];exact qa0.2 ⟨h, h, rfl, by show _ = (Tm.puts τ p.kids).length; rw [Tm.puts_length]⟩
mutual
theorem mat_complete {τ : List Bd} (hf : FitS τ) : ∀ (p : Tm) (m : List Bd), p.valid = 0 → (p.put τ).valid = 0 → Agrees m τ → (p.mat (p.put τ) m).2 = true ∧ Agrees (p.mat (p.put τ) m).1 τ
 | .mk k n s l, m, hp, ht, hm => by
  rw [mat_eq];by_cases hk : k = 1
  ·have hk : (Tm.mk k n s l).kind = 1 := hk;rw [if_pos hk];by_cases hh : hasS m (.mk k n s l) = true
   ·rw [if_pos hh];exact ⟨by simpa using hm.get hh, hm⟩
   ·rw [if_neg hh];refine ⟨by rw [qhx hp hk ht]; exact fit3_of hk hf, fun b hb => ?_⟩;rcases List.mem_append.1 hb with hb | hb
    ·exact hm b hb
    ·rw [List.mem_singleton] at hb; subst hb; rfl
  ·rw [if_neg (show ¬ (Tm.mk k n s l).kind = 1 from hk)];rcases qkn hp with ⟨h1, -⟩ | ⟨h2, hl⟩ | h3
   ·exact absurd h1 hk
   ·have e := qf4 (s := τ) (t := .mk k n s l) hk hl;rw [if_neg (fun h => by have := (qa0.1 h).1; omega), e];exact ⟨by simp, hm⟩
   ·rw [if_pos (alike_put h3)];have e : ((Tm.mk k n s l).put τ).kids = Tm.puts τ l := by rw [put_app h3]; rfl
    rw [e];refine qe3 hf l m (fun x hx => qat hp hx) (fun x hx => qat ht ?_) hm;rw [e, Tm.puts_eq]; exact List.mem_map_of_mem hx
theorem qe3 {τ : List Bd} (hf : FitS τ) : ∀ (l : List Tm) (m : List Bd), (∀ x ∈ l, x.valid = 0) → (∀ x ∈ l, (x.put τ).valid = 0) → Agrees m τ → (Tm.mats l (Tm.puts τ l) m).2 = true ∧ Agrees (Tm.mats l (Tm.puts τ l) m).1 τ
 | [], m, _, _, hm => by rw [Tm.mats]; exact ⟨rfl, hm⟩; simp
 | p :: l, m, hp, ht, hm => by
  obtain ⟨h1, h2⟩ := mat_complete hf p m (hp p (List.mem_cons_self ..)) (ht p (List.mem_cons_self ..)) hm;rw [Tm.puts, Tm.mats, if_pos h1];exact qe3 hf l _ (fun x hx => hp x (List.mem_cons_of_mem _ hx)) (fun x hx => ht x (List.mem_cons_of_mem _ hx)) h2
end
theorem mat_iff {p t : Tm} (hp : p.valid = 0) (ht : t.valid = 0) : (p.mat t []).2 = true ↔ ∃ τ, FitS τ ∧ p.put τ = t := by
 constructor
 ·intro h;obtain ⟨h1, -, h3⟩ := qgo p t [] hp ht ⟨by simp, List.Pairwise.nil⟩ h;exact ⟨_, h1.fit, h3⟩
 ·rintro ⟨τ, hf, rfl⟩;exact (mat_complete hf p [] hp ht (by simp [Agrees])).1
end Go.Proofs.YtpjmdilpldaapaaGreatDoor
