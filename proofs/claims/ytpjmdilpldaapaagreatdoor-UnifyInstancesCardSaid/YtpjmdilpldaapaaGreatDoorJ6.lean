/- Svalid, Sput, Sapply, Srow, Sbsort, Scomp, Uplain, Uend, Umap, Ugset, Ucomp, Ugen0 (joined by shake.py). -/
import Derived.Test.YtpjmdilpldaapaaGreatDoorJGi
import Derived.Test.YtpjmdilpldaapaaGreatDoorSrt
import Derived.Test.YtpjmdilpldaapaaGreatDoorJ4
import Derived.Test.YtpjmdilpldaapaaGreatDoorJ5
import Derived.Shelf.SlSortCmp.QuietGrown
import Derived.StillTailTactics
import Derived.Shelf.SlSortCmp.NoneTotal
import Derived.Maps.OwnSet
import Derived.DeepKeys4
import Derived.Lib.ItoaNum
set_option maxRecDepth 100000
namespace Go.Proofs.YtpjmdilpldaapaaGreatDoor
open Go.RowKit Go.Sort
def RepB (w : World) (P : Nat → Prop) (l : List Bd) (A : Option Addr) (cap : Nat) : Prop :=
 l.length ≤ cap ∧ cap ≤ maxLen ∧ (l = [] ∨ ∃ b off, A = some ⟨b, off, none⟩ ∧ P b ∧ qal w P (flat l) b off)
theorem RepB.mono {w w' : World} {P P' : Nat → Prop} (hP : ∀ b, P b → P' b) (hc : ∀ p : Addr, P p.block → w'.cell? p = w.cell? p) {l : List Bd} {A : Option Addr} {cap : Nat} (h : RepB w P l A cap) : RepB w' P' l A cap := by
 obtain ⟨h1, h2, h3⟩ := h;refine ⟨h1, h2, ?_⟩;rcases h3 with h3 | ⟨b, off, hA, hb, hl⟩
 ·exact Or.inl h3
 ·exact Or.inr ⟨b, off, hA, hP b hb, qal.mono hP hc _ b off hb hl⟩
theorem RepB.go {w w' : World} {B B' : Nat} {l : List Bd} {A : Option Addr} {cap : Nat} (h : RepB w (fun b => b < B) l A cap) (hb : Below B w w') (hB : B ≤ B') : RepB w' (fun b => b < B') l A cap :=
 h.mono (fun _ h => Nat.lt_of_lt_of_le h hB) (fun _ hp => hb.cell hp)
structure At8 (w : World) (P : Nat → Prop) (b o : Nat) (x : Bd) (A : Option Addr) (c : Nat) (A' : Option Addr) (c' : Nat) : Prop where
 c0 : w.cell? ⟨b, o, none⟩ = some (.int .i64 x.1.kind)
 c1 : w.cell? ⟨b, o + 1, none⟩ = some (.string x.1.name)
 c2 : w.cell? ⟨b, o + 2, none⟩ = some (.int .i64 x.1.sort)
 c3 : w.cell? ⟨b, o + 3, none⟩ = some (.slice A x.1.kids.length c)
 c4 : w.cell? ⟨b, o + 4, none⟩ = some (.int .i64 x.2.kind)
 c5 : w.cell? ⟨b, o + 5, none⟩ = some (.string x.2.name)
 c6 : w.cell? ⟨b, o + 6, none⟩ = some (.int .i64 x.2.sort)
 c7 : w.cell? ⟨b, o + 7, none⟩ = some (.slice A' x.2.kids.length c')
 r1 : RepP w P x.1 A c
 r2 : RepP w P x.2 A' c'
theorem qal.get8 {w : World} {P : Nat → Prop} {l : List Bd} {b off : Nat} (h : qal w P (flat l) b off) (i : Nat) (hi : i < l.length) : ∃ A c A' c', At8 w P b (off + i * 8) l[i] A c A' c' := by
 obtain ⟨f1, f2⟩ := qjv l i hi;have hl := qh1 l;obtain ⟨A, c, a0, a1, a2, a3, a4⟩ := h.get (2 * i) (by omega);obtain ⟨A', c', b0, b1, b2, b3, b4⟩ := h.get (2 * i + 1) (by omega);have e1 : (flat l)[2 * i]'(by omega) = l[i].1 := by rw [List.getElem?_eq_getElem (by omega)] at f1; exact Option.some.inj f1
 have e2 : (flat l)[2 * i + 1]'(by omega) = l[i].2 := by rw [List.getElem?_eq_getElem (by omega)] at f2; exact Option.some.inj f2
 rw [e1] at a0 a1 a2 a3 a4;rw [e2] at b0 b1 b2 b3 b4;have o1 : off + 2 * i * 4 = off + i * 8 := by omega
 have o2 : off + (2 * i + 1) * 4 = off + i * 8 + 4 := by omega
 rw [o1] at a0 a1 a2 a3;rw [o2] at b0 b1 b2 b3;exact ⟨A, c, A', c', a0, a1, a2, a3, b0, b1, b2, b3, a4, b4⟩
def qfy (l : List Bd) : Prop := ∀ b ∈ l, b.1.size ≤ 1000000 ∧ b.2.size ≤ 1000000
theorem Tm.put_app (s : List Bd) (k : Int) (n : ByteArray) (so : Int) (l : List Tm) (h : k ≠ 1) : (Tm.mk k n so l).put s = .mk k n so (Tm.puts s l) := by rw [Tm.put, if_neg h]
theorem Tm.put_var (s : List Bd) (t : Tm) (h : t.kind = 1) : t.put s = getS s t := by
 obtain ⟨k, n, so, l⟩ := t;rw [Tm.put]; exact if_pos h
theorem getS_le {s : List Bd} {m : Nat} (hs : ∀ b ∈ s, b.2.size ≤ m) {x : Tm} (hm : 0 < m) : (getS s x).size ≤ m * x.size := by
 induction s with
 | nil => rw [getS]; exact Nat.le_mul_of_pos_left _ hm
 | cons b r ih =>
  rw [getS]
  split
  ·have h1 := hs b (List.mem_cons_self ..);have h2 := x.size_pos;exact Nat.le_trans h1 (Nat.le_mul_of_pos_right _ h2)
  ·exact ih (fun c hc => hs c (List.mem_cons_of_mem _ hc))
mutual
theorem qd0 {s : List Bd} {m : Nat} (hs : ∀ b ∈ s, b.2.size ≤ m) (hm : 0 < m) : ∀ t : Tm, (t.put s).size ≤ m * t.size
 | .mk k n so l => by
  rw [Tm.put]
  split
  ·exact getS_le hs hm
  ·have := qkm hs hm l;rw [Tm.size, Tm.size, Nat.mul_add];omega
theorem qkm {s : List Bd} {m : Nat} (hs : ∀ b ∈ s, b.2.size ≤ m) (hm : 0 < m) : ∀ l : List Tm, Tm.sizes (Tm.puts s l) ≤ m * Tm.sizes l
 | [] => by simp [Tm.puts, Tm.sizes]
 | t :: r => by
  have h1 := qd0 hs hm t;have h2 := qkm hs hm r;rw [Tm.puts, Tm.sizes, Tm.sizes, Nat.mul_add];omega
end
theorem qai {t : Tm} (h : t.valid = 0) : t.size ≤ 400 := by
 unfold Tm.valid at h
 split at h
 ·rename_i h1; exact absurd h h1
 ·split at h
  ·omega
  ·omega
abbrev IB := It × It
def IB.bd (x : IB) : Bd := (x.1.1, x.2.1)
def bits : List IB → List It
 | [] => []
 | x :: r => x.1 :: x.2 :: bits r
def bCells (l : List IB) : List Value := itCells (bits l)
theorem qme (a b : List IB) : bits (a ++ b) = bits a ++ bits b := by
 induction a with
 | nil => rfl
 | cons x r ih => simp [bits, ih]
theorem qd3 (a : List IB) : (bits a).length = a.length * 2 := by
 induction a with
 | nil => rfl
 | cons x r ih => simp [bits, ih]; omega
theorem qcn (a b : List IB) : bCells (a ++ b) = bCells a ++ bCells b := by unfold bCells; rw [qme, qbv]
theorem qa6 (a : List IB) : (bCells a).length = a.length * 8 := by unfold bCells; rw [qa4, qd3]; omega
theorem qdv (a : List IB) : ∀ u ∈ bCells a, u.oneCell' = true := qbr _
theorem qfw (a : List IB) : (bits a).map (·.1) = flat (a.map IB.bd) := by
 induction a with
 | nil => rfl
 | cons x r ih => simp [bits, flat, IB.bd, ih]
theorem qg3 {a : List IB} {y : It} (h : y ∈ bits a) : ∃ x ∈ a, y = x.1 ∨ y = x.2 := by
 induction a with
 | nil => simp [bits] at h
 | cons x r ih =>
  simp only [bits, List.mem_cons] at h;rcases h with h | h | h
  ·exact ⟨x, List.mem_cons_self .., .inl h⟩
  ·exact ⟨x, List.mem_cons_self .., .inr h⟩
  ·obtain ⟨z, hz, e⟩ := ih h;exact ⟨z, List.mem_cons_of_mem _ hz, e⟩
structure RowB (w : World) (base : Nat) (F : Nat → Prop) (v : Value) (its : List IB) : Prop where
 own : w.ownsRow base 48 8 v its.length (bCells its)
 reps : ∀ x ∈ its, RepP w (fun b => F b ∧ b < w.heap.size ∧ v.ownBlock ≠ some b) x.1.1 x.1.2.1 x.1.2.2 ∧ RepP w (fun b => F b ∧ b < w.heap.size ∧ v.ownBlock ≠ some b) x.2.1 x.2.2.1 x.2.2.2
theorem RowB.nil (w : World) (base : Nat) (F : Nat → Prop) : RowB w base F (.slice none 0 0) [] := ⟨World.ownsRow_nil _ _ _ _, by simp⟩
theorem RowB.keep {w w' : World} {base : Nat} {F : Nat → Prop} {v : Value} {its : List IB} (h : RowB w base F v its) (hs : w.heap.size ≤ w'.heap.size)
  (hc : ∀ b, b < w.heap.size → (F b ∨ v.ownBlock = some b) → w'.heap[b]? = w.heap[b]?) : RowB w' base F v its := by
 refine ⟨⟨h.own.1, ?_⟩, fun x hx => ?_⟩
 ·rcases h.own.2 with hn | ⟨g, cap, cur, rfl, hb, hg, r⟩
  ·exact .inl hn
  ·have hlt : g < w.heap.size := (Array.getElem?_eq_some_iff.1 hg).1;exact .inr ⟨g, cap, cur, rfl, hb, by rw [hc g hlt (Or.inr rfl)]; exact hg, r⟩
 ·have key : ∀ (t : Tm) A c, RepP w (fun b => F b ∧ b < w.heap.size ∧ v.ownBlock ≠ some b) t A c → RepP w' (fun b => F b ∧ b < w'.heap.size ∧ v.ownBlock ≠ some b) t A c := fun t A c hr => by
   refine RepP.mono ?_ ?_ _ _ _ hr
   ·rintro b ⟨h1, h2, h3⟩; exact ⟨h1, by omega, h3⟩
   ·rintro p ⟨h1, h2, h3⟩; exact World.cell?_of_block (hc p.block h2 (Or.inl h1))
  exact ⟨key _ _ _ (h.reps x hx).1, key _ _ _ (h.reps x hx).2⟩
theorem RowB.below {w w' : World} {base : Nat} {F : Nat → Prop} {v : Value} {its : List IB} (h : RowB w base F v its) (hb : Below w.heap.size w w') : RowB w' base F v its :=
 h.keep hb.size (fun b hlt _ => hb.block b hlt)
theorem RowB.lt {w : World} {base : Nat} {F : Nat → Prop} {v : Value} {its : List IB} (h : RowB w base F v its) : ∀ k, v.ownBlock = some k → base ≤ k ∧ k < w.heap.size := h.own.lt
theorem RowB.toB {w : World} {base : Nat} {F P : Nat → Prop} {v : Value} {its : List IB} (h : RowB w base F v its) (hF : ∀ b, F b → b < w.heap.size → P b) (hP : ∀ b, base ≤ b → b < w.heap.size → P b) :
  ∃ A cap, v = .slice A its.length cap ∧ RepB w P (its.map IB.bd) A cap := by
 rcases h.own.2 with ⟨rfl, h0⟩ | ⟨g, cap, cur, rfl, hb, hg, hnc, hcm, r⟩
 ·have : its = [] := List.eq_nil_of_length_eq_zero h0;subst this;exact ⟨none, 0, rfl, by simp, by simp [maxLen], .inl rfl⟩
 ·refine ⟨some ⟨g, 0, none⟩, cap, rfl, by simpa using hnc, hcm, .inr ⟨g, 0, rfl, hP g hb (Array.getElem?_eq_some_iff.1 hg).1, ?_⟩⟩;rw [← qfw];refine qal.of_its (bits its) g 0 (fun j u hj => ?_) (fun y hy => ?_)
  ·have := h.own.cells (g := g) rfl j u hj;simpa [Addr.add] using (by
    unfold Addr.add at this
    split at this <;> simp_all)
  ·obtain ⟨x, hx, e⟩ := qg3 hy;rcases e with rfl | rfl
   ·exact RepP.mono (fun b ⟨h1, h2, _⟩ => hF b h1 h2) (fun _ _ => rfl) _ _ _ (h.reps x hx).1
   ·exact RepP.mono (fun b ⟨h1, h2, _⟩ => hF b h1 h2) (fun _ _ => rfl) _ _ _ (h.reps x hx).2
theorem bindInfo : (Tryz.prog.info? 48).map (fun i => (i.zero, i.size, i.bytes)) = some (some (.agg #[.int .i64 0, .string ⟨#[]⟩, .int .i64 0, .slice none 0 0, .int .i64 0, .string ⟨#[]⟩, .int .i64 0, .slice none 0 0]), 8, 112) := by kernel_rfl
theorem RowB.grow1 {w : World} {base : Nat} {F : Nat → Prop} {v : Value} {its : List IB} (hrow : RowB w base F v its) (hbase : base ≤ w.heap.size) (X : IB) (B c : Nat) (fr : Nat × Nat) (hB : w.heap[B]? = Option.some (.cells (bCells [X]).toArray 48 fr))
  (hX1 : RepP w (fun b => F b ∧ b < w.heap.size ∧ v.ownBlock ≠ Option.some b) X.1.1 X.1.2.1 X.1.2.2) (hX2 : RepP w (fun b => F b ∧ b < w.heap.size ∧ v.ownBlock ≠ Option.some b) X.2.1 X.2.2.1 X.2.2.2) (hlen : its.length + 1 ≤ 100000000) :
  ∃ g cap w', (∀ ty, (Builtin.append_ #[27, 27] ty #[v, .slice (Option.some ⟨B, 0, none⟩) 1 c]).run Tryz.prog w = .ok (.slice (Option.some ⟨g, 0, none⟩) (its.length + 1) cap) w') ∧
   RowB w' base F (.slice (Option.some ⟨g, 0, none⟩) (its.length + 1) cap) (its ++ [X]) ∧ w.grownBy w' v.ownBlock ∧ base ≤ g := by
 obtain ⟨i0, hi0, hz0, hz1, hz2⟩ := info_parts bindInfo;obtain ⟨g, cap, w', h1, h2, h3, h4, h5⟩ := run_append_lies (P := Tryz.prog) w 27 0 base 48 i0 _ 8 112 Tryz.underlying27 hi0 hz0 hz1 hz2 rfl (by omega) v its.length (bCells its) hrow.own ⟨B, 0, none⟩ 1 c (bCells [X]) (by rw [qa6]; rfl)
  (fun j u hu => World.news_of_block hB j u (by simpa using hu)) (qdv [X]) (by omega) (by unfold maxLen; omega) (by omega) hbase w.heap.size rfl
 have hg : g = w.heap.size ∨ v.ownBlock = Option.some g := by rcases h4 with h | h; exact .inr h; exact .inl h
 refine ⟨g, cap, w', fun ty => h1, ⟨by rw [qcn, List.length_append]; exact h2, fun x hx => ?_⟩, h3, (h2.lt g rfl).1⟩;have key : ∀ (t : Tm) A c, RepP w (fun b => F b ∧ b < w.heap.size ∧ v.ownBlock ≠ Option.some b) t A c → RepP w' (fun b => F b ∧ b < w'.heap.size ∧ (Value.slice (Option.some ⟨g, 0, none⟩) (its.length + 1) cap).ownBlock ≠ Option.some b) t A c := fun t A c hr => by
  refine RepP.mono ?_ ?_ _ _ _ hr
  ·rintro b ⟨k1, k2, k3⟩;refine ⟨k1, Nat.lt_of_lt_of_le k2 h3.size, fun e => ?_⟩;have e' : g = b := by injection e
   rcases hg with h | h
   ·omega
   ·rw [e'] at h; exact k3 h
  ·rintro p ⟨k1, k2, k3⟩;exact World.cell?_of_block (h3.block p.block k2 (fun e => k3 e.symm))
 rcases List.mem_append.1 hx with hx | hx
 ·exact ⟨key _ _ _ (hrow.reps x hx).1, key _ _ _ (hrow.reps x hx).2⟩
 ·obtain rfl : x = X := by simpa using hx
  exact ⟨key _ _ _ hX1, key _ _ _ hX2⟩
def GoodIB (w : World) (g : Nat) (x : IB) : Prop := RepP w (fun b => b < w.heap.size ∧ b ≠ g) x.1.1 x.1.2.1 x.1.2.2 ∧ x.1.1.size ≤ 1000000
abbrev GIB (w : World) (g : Nat) := { x : IB // GoodIB w g x }
def qdh (w : World) (g : Nat) (x : GIB w g) : List Value := bCells [x.1]
def qmc (w : World) (g : Nat) (x y : GIB w g) : Int := x.1.1.1.cmp y.1.1.1
theorem swo_cmpIB {w : World} {g : Nat} : SWO (ltOf (qmc w g)) where
 irrefl x := by simp [ltOf, qmc, Tm.cmp_self]
 trans x y z h1 h2 := by
  unfold ltOf qmc at *;rw [decide_eq_true_eq] at *;exact (Tm.cmp_tri x.1.1.1 y.1.1.1 z.1.1.1).2.1 h1 (Int.le_of_lt h2)
 ntrans x y z h1 h2 := by
  unfold ltOf qmc at *;rw [decide_eq_false_iff_not] at *;have n1 := Tm.cmp_neg x.1.1.1 y.1.1.1;have n2 := Tm.cmp_neg y.1.1.1 z.1.1.1;have n3 := Tm.cmp_neg x.1.1.1 z.1.1.1;have := (Tm.cmp_tri z.1.1.1 y.1.1.1 x.1.1.1).1 (by omega) (by omega);omega
theorem qos (l : List IB) (q r : Nat) (hq : q < l.length) (hr : r < 8) : (bCells l)[q * 8 + r]? = (bCells [l[q]])[r]? := by
 have e : l = l.take q ++ ([l[q]] ++ l.drop (q + 1)) := by simp
 have e2 : bCells l = bCells (l.take q) ++ (bCells [l[q]] ++ bCells (l.drop (q + 1))) := by
  conv => lhs; rw [e]
  rw [qcn, qcn]
 have h1 : (bCells (l.take q)).length = q * 8 := by rw [qa6, List.length_take, Nat.min_eq_left (by omega)]
 rw [e2, List.getElem?_append_right (by omega), h1, List.getElem?_append_left (by rw [qa6]; simp; omega)]
 congr 1; omega
theorem qm8 {w : World} {g : Nat} [Inhabited (GIB w g)] (d : Array (GIB w g)) : (flatK (qdh w g) 8 d).toList = bCells (d.toList.map (·.1)) := by
 apply List.ext_getElem?;intro t;by_cases ht : t < d.size * 8
 ·obtain ⟨q, r, hm, rfl⟩ : ∃ q r, r < 8 ∧ t = q * 8 + r := ⟨t / 8, t % 8, Nat.mod_lt _ (by omega), by omega⟩;have hq : (q * 8 + r) / 8 = q := by omega
  have hr : (q * 8 + r) % 8 = r := by omega
  have h4 : q < d.size := by omega
  have hl : q < (d.toList.map (·.1)).length := by simpa using h4
  have hx : (d.toList.map (·.1))[q] = (d[q]!).1 := by simp [h4]
  rw [qos _ q r hl hm, hx];have hs : q * 8 + r < (flatK (qdh w g) 8 d).size := by simpa using ht
  have h := get_flatK (qdh w g) 8 d (q * 8 + r) ht;rw [hq, hr] at h;have hel : r < (qdh w g d[q]!).length := by unfold qdh; rw [qa6]; simp; omega
  rw [Array.getElem?_toList, Array.getElem?_eq_getElem hs, ← getElem!_pos (flatK (qdh w g) 8 d) (q * 8 + r) hs, h];rw [getElem!_pos (qdh w g d[q]!) r hel];exact (List.getElem?_eq_getElem hel).symm
 ·rw [List.getElem?_eq_none (by simpa using ht), List.getElem?_eq_none (by rw [qa6]; simpa using ht)]
def SortedIB (w : World) (base g n cap : Nat) (F : Nat → Prop) (its : List IB) (e : Ending) (w' : World) : Prop :=
 e = .returned (.tuple #[]) ∧ ∃ its', its'.Perm its ∧ (∀ i j, (hi : i < j) → (hj : j < its'.length) → (its'[i].1.1.cmp its'[j].1.1) ≤ 0) ∧
  RowB w' base F (.slice (some ⟨g, 0, none⟩) n cap) its' ∧ w.grownBy w' (some g)
end Go.Proofs.YtpjmdilpldaapaaGreatDoor
namespace Go.Proofs.YtpjmdilpldaapaaGreatDoor
def insB (x : Bd) : List Bd → List Bd
 | [] => [x]
 | b :: r => if x.1.cmp b.1 < 0 then x :: b :: r else b :: insB x r
def qij (l : List Bd) : List Bd := l.foldl (fun a b => insB b a) []
theorem qhv (x : Bd) : ∀ l, (insB x l).Perm (x :: l)
 | [] => List.Perm.refl _
 | b :: r => by
  rw [insB]
  split
  ·exact List.Perm.refl _
  ·exact (List.Perm.cons b (qhv x r)).trans (List.Perm.swap x b r)
theorem qhe : ∀ (l a : List Bd), (l.foldl (fun a b => insB b a) a).Perm (l ++ a)
 | [], a => List.Perm.refl _
 | b :: r, a => by
  rw [List.foldl_cons];refine (qhe r _).trans ?_;refine ((qhv b a).append_left r).trans ?_;exact List.perm_middle
theorem qel (l : List Bd) : (qij l).Perm l := by have := qhe l []; simpa [qij] using this
def LeB (a b : Bd) : Prop := a.1.cmp b.1 ≤ 0
theorem insB_sorted (x : Bd) : ∀ l, l.Pairwise LeB → (insB x l).Pairwise LeB
 | [], _ => by rw [insB]; exact List.pairwise_singleton ..
 | b :: r, h => by
  obtain ⟨h1, h2⟩ := List.pairwise_cons.1 h;rw [insB]
  split
  ·rename_i hx
   refine List.pairwise_cons.2 ⟨fun c hc => ?_, h⟩;rcases List.mem_cons.1 hc with rfl | hc
   ·exact Int.le_of_lt hx
   ·exact Int.le_of_lt ((Tm.cmp_tri x.1 b.1 c.1).2.1 hx (h1 c hc))
  ·rename_i hx
   refine List.pairwise_cons.2 ⟨fun c hc => ?_, insB_sorted x r h2⟩;rcases List.mem_cons.1 ((qhv x r).mem_iff.1 hc) with rfl | hc
   ·have := Tm.cmp_neg c.1 b.1; unfold LeB; omega
   ·exact h1 c hc
theorem qkd (l : List Bd) : (qij l).Pairwise LeB := by
 have key : ∀ (l a : List Bd), a.Pairwise LeB → (l.foldl (fun a b => insB b a) a).Pairwise LeB := by
  intro l
  induction l with
  | nil => intro a h; exact h
  | cons b r ih => intro a h; exact ih _ (insB_sorted b a h)
 exact key l [] List.Pairwise.nil
def qco (l : List Bd) : Prop := l.Pairwise (fun a b => a.1 ≠ b.1)
theorem qfg : ∀ (a b : List Bd), a.Perm b → a.Pairwise LeB → b.Pairwise LeB → qco a → a = b
 | [], b, h, _, _, _ => h.nil_eq
 | x :: a, [], h, _, _, _ => absurd h.length_eq (by simp)
 | x :: a, y :: b, h, ha, hb, hv => by
  obtain ⟨a1, a2⟩ := List.pairwise_cons.1 ha;obtain ⟨b1, b2⟩ := List.pairwise_cons.1 hb;obtain ⟨v1, v2⟩ := List.pairwise_cons.1 hv;have e : x = y := by
   have hx : x ∈ y :: b := h.mem_iff.1 (List.mem_cons_self ..);have hy : y ∈ x :: a := h.mem_iff.2 (List.mem_cons_self ..);rcases List.mem_cons.1 hx with e | hx
   ·exact e
   rcases List.mem_cons.1 hy with e | hy
   ·exact e.symm
   have k1 := a1 y hy;have k2 := b1 x hx;unfold LeB at k1 k2;have := Tm.cmp_neg x.1 y.1;exact absurd (Tm.cmp_zero.1 (show x.1.cmp y.1 = 0 by omega)) (v1 y hy)
  subst e;rw [qfg a b h.cons_inv a2 b2 v2]
theorem sorted_is {a l : List Bd} (h : a.Perm l) (hs : a.Pairwise LeB) (hv : qco l) : a = qij l :=
 qfg a (qij l) (h.trans (qel l).symm) hs (qkd l) (h.symm.pairwise hv (fun h e => h e.symm))
def occT (x t : Tm) : Bool := decide (x ∈ t.all)
def qbc (a b : Tm) : Bool := decide (a.kind = 3) && decide (b.kind = 3) && decide (a.name = b.name) && decide (a.kids.length = b.kids.length)
def oneU (x t : Tm) : Tm × Tm × Int := if fits x t = false then (x, t, 11) else if occT x t = true then (x, t, 12) else (x, t, 0)
def qan (a b : Tm) : Tm × Tm × Int :=
 if a.kind = 1 then
  (if b.kind = 1 then (if a.sort = b.sort then (if a.cmp b < 0 then (b, a, 0) else (a, b, 0)) else if b.sort = 0 then (b, a, 0) else if a.sort = 0 then (a, b, 0) else (a, b, 11)) else oneU a b)
 else if b.kind = 1 then oneU b a else (a, b, 11)
def putP (x t : Tm) (p : Bd) : Bd := (p.1.put [(x, t)], p.2.put [(x, t)])
def putB (x t : Tm) (b : Bd) : Bd := (b.1, b.2.put [(x, t)])
def okP (l : List Bd) : Bool := l.all fun p => decide (p.1.valid = 0) && decide (p.2.valid = 0)
def okB (l : List Bd) : Bool := l.all fun b => decide (b.1.valid = 0) && decide (b.1.kind = 1) && decide (b.2.valid = 0)
def qcy (x t : Tm) (ps bs : List Bd) : Bool := okP (ps.map (putP x t)) && (bs.map (putB x t)).all (fun b => decide (b.2.valid = 0))
def qa8 (a b : Tm) (ps bs : List Bd) : Int × List Bd × List Bd :=
 if a = b then (0, ps, bs) else if qbc a b = true then (0, a.kids.zip b.kids ++ ps, bs)
 else if (qan a b).2.2 ≠ 0 then ((qan a b).2.2, ps, bs)
 else (if qcy (qan a b).1 (qan a b).2.1 ps bs = true then 0 else 3, ps.map (putP (qan a b).1 (qan a b).2.1), bs.map (putB (qan a b).1 (qan a b).2.1) ++ [((qan a b).1, (qan a b).2.1)])
def qk1 (ps bs : List Bd) : Bool := decide (ps.length ≤ 1000000) && decide (bs.length ≤ 1000000) && okP ps && okB bs
def runU : Nat → List Bd → List Bd → Option (Int × List Bd)
 | 0, _, _ => none
 | _ + 1, [], bs => if qk1 [] bs = true then some (0, bs) else none
 | n + 1, p :: ps, bs => if qk1 (p :: ps) bs = true then (if (qa8 p.1 p.2 ps bs).1 ≠ 0 then some ((qa8 p.1 p.2 ps bs).1, []) else runU n (qa8 p.1 p.2 ps bs).2.1 (qa8 p.1 p.2 ps bs).2.2) else none
theorem okP_iff {l : List Bd} : okP l = true ↔ ∀ p ∈ l, p.1.valid = 0 ∧ p.2.valid = 0 := by
 unfold okP; rw [List.all_eq_true]; simp
theorem okB_iff {l : List Bd} : okB l = true ↔ ∀ p ∈ l, p.1.valid = 0 ∧ p.1.kind = 1 ∧ p.2.valid = 0 := by
 unfold okB; rw [List.all_eq_true]; simp [and_assoc]
theorem qc1 {ps bs : List Bd} : qk1 ps bs = true ↔ ps.length ≤ 1000000 ∧ bs.length ≤ 1000000 ∧ (∀ p ∈ ps, p.1.valid = 0 ∧ p.2.valid = 0) ∧ (∀ p ∈ bs, p.1.valid = 0 ∧ p.1.kind = 1 ∧ p.2.valid = 0) := by
 unfold qk1; rw [Bool.and_eq_true, Bool.and_eq_true, Bool.and_eq_true, okP_iff, okB_iff]; simp [and_assoc]
theorem qat {t : Tm} : t.valid = 0 ↔ t.check = 0 ∧ t.size ≤ 400 ∧ t.depth ≤ 40 := by
 unfold Tm.valid;constructor
 ·intro h
  split at h
  ·rename_i g; exact absurd h g
  ·rename_i g
   split at h
   ·omega
   ·rename_i g2; exact ⟨by omega, by omega, by omega⟩
 ·rintro ⟨h1, h2, h3⟩;rw [if_neg (by simpa using h1), if_neg (by omega)]
theorem qbg : ∀ {l : List Tm}, Tm.checks l = 0 ↔ ∀ t ∈ l, t.check = 0
 | [] => by simp [Tm.checks]
 | t :: r => by
  rw [Tm.checks]
  split
  ·rename_i h
   simp only [List.mem_cons, forall_eq_or_imp];exact ⟨fun h2 => absurd h2 h, fun h2 => absurd h2.1 h⟩
  ·rename_i h
   rw [qbg];simp only [List.mem_cons, forall_eq_or_imp];exact ⟨fun h2 => ⟨by omega, h2⟩, fun h2 => h2.2⟩
theorem qb5 {k s : Int} {n : ByteArray} {l : List Tm} (h : (Tm.mk k n s l).check = 0) : ((k = 1 ∨ k = 2) ∧ l = []) ∨ (k = 3 ∧ s = 0 ∧ Tm.checks l = 0) := by
 rw [Tm.check] at h;by_cases hk : k = 1 ∨ k = 2
 ·rw [if_pos hk] at h
  split at h
  ·omega
  ·rename_i g
   exact .inl ⟨hk, Classical.byContradiction fun e => g (.inr (.inr e))⟩
 ·rw [if_neg hk] at h
  split at h
  ·rename_i h3
   split at h
   ·omega
   ·rename_i g
    split at h
    ·omega
    ·split at h
     ·omega
     ·exact .inr ⟨h3, by omega, h⟩
  ·omega
theorem qmr : ∀ {l : List Tm} {t : Tm}, t ∈ l → t.size ≤ Tm.sizes l
 | x :: r, t, h => by
  rw [Tm.sizes];rcases List.mem_cons.1 h with rfl | h
  ·omega
  ·have := qmr h; omega
theorem qle : ∀ {l : List Tm} {t : Tm}, t ∈ l → t.depth ≤ Tm.depths l
 | x :: r, t, h => by
  rw [Tm.depths];rcases List.mem_cons.1 h with rfl | h
  ·omega
  ·have := qle h; omega
theorem qa7 {t k : Tm} (h : t.valid = 0) (hk : k ∈ t.kids) : k.valid = 0 := by
 obtain ⟨kd, n, s, l⟩ := t;obtain ⟨h1, h2, h3⟩ := qat.1 h;have hk : k ∈ l := hk;rw [Tm.size] at h2;rw [Tm.depth] at h3;have a := qmr hk;have b := qle hk;refine qat.2 ⟨?_, by omega, by omega⟩;rcases qb5 h1 with ⟨-, rfl⟩ | ⟨-, -, hc⟩
 ·simp at hk
 ·exact qbg.1 hc k hk
theorem var_all {x : Tm} (h : x.valid = 0) (hk : x.kind = 1) : x.all = [x] := by
 obtain ⟨kd, n, s, l⟩ := x;obtain ⟨h1, -, -⟩ := qat.1 h;have hk : kd = 1 := hk;rcases qb5 h1 with ⟨-, rfl⟩ | ⟨h3, -, -⟩
 ·rfl
 ·omega
theorem mem_self (t : Tm) : t ∈ t.all := by cases t; rw [Tm.all]; exact List.mem_cons_self ..
theorem qed {x : Tm} : ∀ {l : List Tm}, x ∈ Tm.alls l ↔ ∃ t ∈ l, x ∈ t.all
 | [] => by simp [Tm.alls]
 | t :: r => by rw [Tm.alls, List.mem_append, qed]; simp
theorem qeb {t k x : Tm} (hk : k ∈ t.kids) (hx : x ∈ k.all) : x ∈ t.all := by
 cases t; rw [Tm.all]; exact List.mem_cons_of_mem _ (qed.2 ⟨k, hk, hx⟩)
theorem qjo {x t : Tm} {k s : Int} {n : ByteArray} {l : List Tm} : (Tm.mk k n s l).put [(x, t)] = if k = 1 then (if x = .mk k n s l then t else .mk k n s l) else .mk k n s (Tm.puts [(x, t)] l) := by
 rw [Tm.put]; simp only [getS]
theorem put_var {s : List Bd} {x : Tm} (hk : x.kind = 1) : x.put s = getS s x := by
 obtain ⟨kd, n, so, l⟩ := x;have hk : kd = 1 := hk;rw [Tm.put, if_pos hk]
mutual
theorem qhp {x u y : Tm} (hy : y.kind = 1) : ∀ t : Tm, t.check = 0 → y ∈ (t.put [(x, u)]).all → (y ∈ t.all ∧ y ≠ x) ∨ y ∈ u.all
 | .mk k n s l, hc, hm => by
  rw [qjo] at hm
  split at hm
  ·rename_i hk
   split at hm
   ·exact .inr hm
   ·rename_i hne
    rcases qb5 hc with ⟨-, rfl⟩ | ⟨h3, -, -⟩
    ·rw [Tm.all, Tm.alls, List.mem_singleton] at hm;subst hm;exact .inl ⟨mem_self _, fun e => hne e.symm⟩
    ·omega
  ·rename_i hk
   rw [Tm.all, List.mem_cons] at hm;rcases hm with rfl | hm
   ·exact absurd hy hk
   ·rcases qb5 hc with ⟨-, rfl⟩ | ⟨-, -, h4⟩
    ·simp [Tm.puts, Tm.alls] at hm
    ·rcases qm3 hy l h4 hm with ⟨h5, h6⟩ | h5
     ·exact .inl ⟨by rw [Tm.all]; exact List.mem_cons_of_mem _ h5, h6⟩
     ·exact .inr h5
theorem qm3 {x u y : Tm} (hy : y.kind = 1) : ∀ l : List Tm, Tm.checks l = 0 → y ∈ Tm.alls (Tm.puts [(x, u)] l) → (y ∈ Tm.alls l ∧ y ≠ x) ∨ y ∈ u.all
 | [], _, hm => by simp [Tm.puts, Tm.alls] at hm
 | t :: r, hc, hm => by
  have h1 : t.check = 0 := qbg.1 hc t (List.mem_cons_self ..);have h2 : Tm.checks r = 0 := qbg.2 fun z hz => qbg.1 hc z (List.mem_cons_of_mem _ hz);rw [Tm.puts, Tm.alls, List.mem_append] at hm;rw [Tm.alls];rcases hm with hm | hm
  ·rcases qhp hy t h1 hm with ⟨h5, h6⟩ | h5
   ·exact .inl ⟨List.mem_append_left _ h5, h6⟩
   ·exact .inr h5
  ·rcases qm3 hy r h2 hm with ⟨h5, h6⟩ | h5
   ·exact .inl ⟨List.mem_append_right _ h5, h6⟩
   ·exact .inr h5
end
def qie (τ ps bs : List Bd) : Prop := (∀ p ∈ ps, p.1.put τ = p.2.put τ) ∧ (∀ b ∈ bs, b.1.put τ = b.2.put τ)
mutual
theorem qck {x t : Tm} {τ : List Bd} (h : x.put τ = t.put τ) : ∀ u : Tm, (u.put [(x, t)]).put τ = u.put τ
 | .mk k n s l => by
  rw [qjo]
  split
  ·rename_i hk
   split
   ·rename_i e; rw [← e, h]
   ·rfl
  ·rename_i hk
   rw [Tm.put, if_neg hk, Tm.put, if_neg hk, qkn h l]
theorem qkn {x t : Tm} {τ : List Bd} (h : x.put τ = t.put τ) : ∀ l : List Tm, Tm.puts τ (Tm.puts [(x, t)] l) = Tm.puts τ l
 | [] => rfl
 | u :: r => by rw [Tm.puts, Tm.puts, Tm.puts, qck h u, qkn h r]
end
structure Chosen (a b x t : Tm) : Prop where
 pair : (x = a ∧ t = b) ∨ (x = b ∧ t = a)
 var : x.kind = 1
 vx : x.valid = 0
 vt : t.valid = 0
 fit : x.sort = 0 ∨ (t.kind ≠ 3 ∧ t.sort = x.sort)
 out : x ∉ t.all
theorem oneU_ok {x t : Tm} (hx : x.valid = 0) (ht : t.valid = 0) (hk : x.kind = 1) (h : (oneU x t).2.2 = 0) : oneU x t = (x, t, 0) ∧ (x.sort = 0 ∨ (t.kind ≠ 3 ∧ t.sort = x.sort)) ∧ x ∉ t.all := by
 unfold oneU at h ⊢
 split at h
 ·simp at h
 ·rename_i h1
  split at h
  ·simp at h
  ·rename_i h2
   rw [if_neg h1, if_neg h2];refine ⟨rfl, ?_, by simpa [occT] using h2⟩;have h1 : fits x t = true := by simpa using h1
   unfold fits at h1;simp [hx, ht, hk] at h1;exact h1
theorem qh6 {a b : Tm} (ha : a.valid = 0) (hb : b.valid = 0) (hne : a ≠ b) (h : (qan a b).2.2 = 0) : Chosen a b (qan a b).1 (qan a b).2.1 := by
 have out : ∀ x t : Tm, x ≠ t → t.valid = 0 → t.kind = 1 → x ∉ t.all := fun x t hn hv hk hm => by rw [var_all hv hk, List.mem_singleton] at hm; exact hn hm
 unfold qan at h ⊢;by_cases ka : a.kind = 1
 ·rw [if_pos ka] at h ⊢;by_cases kb : b.kind = 1
  ·rw [if_pos kb] at h ⊢;have ka3 : a.kind ≠ 3 := by omega
   have kb3 : b.kind ≠ 3 := by omega
   by_cases hs : a.sort = b.sort
   ·rw [if_pos hs] at h ⊢
    split
    ·exact ⟨.inr ⟨rfl, rfl⟩, kb, hb, ha, .inr ⟨ka3, hs⟩, out b a (Ne.symm hne) ha ka⟩
    ·exact ⟨.inl ⟨rfl, rfl⟩, ka, ha, hb, .inr ⟨kb3, hs.symm⟩, out a b hne hb kb⟩
   ·rw [if_neg hs] at h ⊢;by_cases h0 : b.sort = 0
    ·rw [if_pos h0];exact ⟨.inr ⟨rfl, rfl⟩, kb, hb, ha, .inl h0, out b a (Ne.symm hne) ha ka⟩
    ·rw [if_neg h0] at h ⊢;by_cases h1 : a.sort = 0
     ·rw [if_pos h1];exact ⟨.inl ⟨rfl, rfl⟩, ka, ha, hb, .inl h1, out a b hne hb kb⟩
     ·rw [if_neg h1] at h;simp at h
  ·rw [if_neg kb] at h ⊢;obtain ⟨e, h1, h2⟩ := oneU_ok ha hb ka h;rw [e];exact ⟨.inl ⟨rfl, rfl⟩, ka, ha, hb, h1, h2⟩
 ·rw [if_neg ka] at h ⊢;by_cases kb : b.kind = 1
  ·rw [if_pos kb] at h ⊢;obtain ⟨e, h1, h2⟩ := oneU_ok hb ha kb h;rw [e];exact ⟨.inr ⟨rfl, rfl⟩, kb, hb, ha, h1, h2⟩
  ·rw [if_neg kb] at h;simp at h
theorem qbb {a b : Tm} : qbc a b = true ↔ a.kind = 3 ∧ b.kind = 3 ∧ a.name = b.name ∧ a.kids.length = b.kids.length := by
 unfold qbc; simp [and_assoc]
theorem qdq {a b : Tm} {ps bs : List Bd} (ha : a.valid = 0) (hb : b.valid = 0) (h : (qa8 a b ps bs).1 = 0) :
  (a = b ∧ qa8 a b ps bs = (0, ps, bs)) ∨ (a ≠ b ∧ qbc a b = true ∧ qa8 a b ps bs = (0, a.kids.zip b.kids ++ ps, bs)) ∨
  (∃ x t, Chosen a b x t ∧ qcy x t ps bs = true ∧ qa8 a b ps bs = (0, ps.map (putP x t), bs.map (putB x t) ++ [(x, t)])) := by
 unfold qa8 at h ⊢;by_cases he : a = b
 ·exact .inl ⟨he, if_pos he⟩
 rw [if_neg he] at h ⊢;by_cases hal : qbc a b = true
 ·exact .inr (.inl ⟨he, hal, if_pos hal⟩)
 rw [if_neg hal] at h ⊢;by_cases hc : (qan a b).2.2 ≠ 0
 ·rw [if_pos hc] at h; exact absurd h hc
 rw [if_neg hc] at h ⊢;by_cases hr : qcy (qan a b).1 (qan a b).2.1 ps bs = true
 ·exact .inr (.inr ⟨_, _, qh6 ha hb he (by simpa using hc), hr, by rw [if_pos hr]⟩)
 ·rw [if_neg hr] at h; simp at h
theorem qmi {τ : List Bd} : ∀ {l m : List Tm}, l.length = m.length → (∀ p ∈ l.zip m, p.1.put τ = p.2.put τ) → Tm.puts τ l = Tm.puts τ m
 | [], [], _, _ => rfl
 | a :: l, b :: m, h, hp => by
  rw [Tm.puts, Tm.puts, hp (a, b) (by simp), qmi (by simpa using h) fun p hp' => hp p (by simp; exact .inr hp')]
theorem qeu {t : Tm} (h : t.valid = 0) (hk : t.kind = 3) : t.sort = 0 := by
 obtain ⟨kd, n, s, l⟩ := t;have hk : kd = 3 := hk;rcases qb5 (qat.1 h).1 with ⟨h1, -⟩ | ⟨-, h2, -⟩
 ·omega
 ·exact h2
theorem put_app {s : List Bd} {t : Tm} (hk : t.kind = 3) : t.put s = .mk t.kind t.name t.sort (Tm.puts s t.kids) := by
 obtain ⟨kd, n, so, l⟩ := t;have hk : kd = 3 := hk;rw [Tm.put, if_neg (by omega)]; rfl
theorem step_back {a b : Tm} {ps bs : List Bd} (ha : a.valid = 0) (hb : b.valid = 0) (h : (qa8 a b ps bs).1 = 0) {τ : List Bd} (hs : qie τ (qa8 a b ps bs).2.1 (qa8 a b ps bs).2.2) : qie τ ((a, b) :: ps) bs := by
 rcases qdq ha hb h with ⟨rfl, e⟩ | ⟨-, hal, e⟩ | ⟨x, t, hc, -, e⟩ <;> rw [e] at hs
 ·refine ⟨fun p hp => ?_, hs.2⟩;rcases List.mem_cons.1 hp with rfl | hp
  ·rfl
  ·exact hs.1 p hp
 ·refine ⟨fun p hp => ?_, hs.2⟩;rcases List.mem_cons.1 hp with rfl | hp
  ·obtain ⟨k1, k2, hn, hl⟩ := qbb.1 hal;show a.put τ = b.put τ;rw [put_app k1, put_app k2, k1, k2, hn, qeu ha k1, qeu hb k2, qmi hl fun p hp => hs.1 p (List.mem_append_left _ hp)]
  ·exact hs.1 p (List.mem_append_right _ hp)
 ·have hx : x.put τ = t.put τ := hs.2 (x, t) (by simp);refine ⟨fun p hp => ?_, fun c hc' => ?_⟩
  ·rcases List.mem_cons.1 hp with rfl | hp
   ·rcases hc.pair with ⟨rfl, rfl⟩ | ⟨rfl, rfl⟩
    ·exact hx
    ·exact hx.symm
   ·have := hs.1 (putP x t p) (List.mem_map_of_mem hp);unfold putP at this;rw [qck hx, qck hx] at this;exact this
  ·have := hs.2 (putB x t c) (List.mem_append_left _ (List.mem_map_of_mem hc'));unfold putB at this;rw [qck hx] at this;exact this
theorem step_on {a b : Tm} {ps bs : List Bd} (ha : a.valid = 0) (hb : b.valid = 0) (h : (qa8 a b ps bs).1 = 0) {τ : List Bd} (hs : qie τ ((a, b) :: ps) bs) : qie τ (qa8 a b ps bs).2.1 (qa8 a b ps bs).2.2 := by
 have h0 : a.put τ = b.put τ := hs.1 (a, b) (List.mem_cons_self ..);rcases qdq ha hb h with ⟨rfl, e⟩ | ⟨-, hal, e⟩ | ⟨x, t, hc, -, e⟩ <;> rw [e]
 ·exact ⟨fun p hp => hs.1 p (List.mem_cons_of_mem _ hp), hs.2⟩
 ·refine ⟨fun p hp => ?_, hs.2⟩;rcases List.mem_append.1 hp with hp | hp
  ·obtain ⟨k1, k2, hn, hl⟩ := qbb.1 hal;rw [put_app k1, put_app k2] at h0;injection h0 with _ _ _ h0;obtain ⟨i, hi, rfl⟩ := List.getElem_of_mem hp;have hi1 : i < a.kids.length := by simp at hi; omega
   have hi2 : i < b.kids.length := by simp at hi; omega
   have := congrArg (·[i]?) h0;simp only [Tm.puts_eq, List.getElem?_map, List.getElem?_eq_getElem hi1, List.getElem?_eq_getElem hi2, Option.map_some, Option.some.injEq] at this;simpa using this
  ·exact hs.1 p (List.mem_cons_of_mem _ hp)
 ·have hx : x.put τ = t.put τ := by
   rcases hc.pair with ⟨rfl, rfl⟩ | ⟨rfl, rfl⟩
   ·exact h0
   ·exact h0.symm
  refine ⟨fun p hp => ?_, fun c hc' => ?_⟩
  ·obtain ⟨q, hq, rfl⟩ := List.mem_map.1 hp;show (q.1.put [(x, t)]).put τ = (q.2.put [(x, t)]).put τ;rw [qck hx, qck hx];exact hs.1 q (List.mem_cons_of_mem _ hq)
  ·rcases List.mem_append.1 hc' with hc' | hc'
   ·obtain ⟨q, hq, rfl⟩ := List.mem_map.1 hc';show q.1.put τ = (q.2.put [(x, t)]).put τ;rw [qck hx];exact hs.2 q hq
   ·rw [List.mem_singleton] at hc'; subst hc'; exact hx
def ApartU (ps bs : List Bd) : Prop := qco bs ∧ ∀ c ∈ bs, (∀ p ∈ ps, c.1 ∉ p.1.all ∧ c.1 ∉ p.2.all) ∧ ∀ b ∈ bs, c.1 ∉ b.2.all
theorem okP_kids {a b : Tm} (ha : a.valid = 0) (hb : b.valid = 0) : ∀ p ∈ a.kids.zip b.kids, p.1.valid = 0 ∧ p.2.valid = 0 := fun p hp => by
 obtain ⟨h1, h2⟩ := List.of_mem_zip hp;exact ⟨qa7 ha h1, qa7 hb h2⟩
theorem qfj {x t : Tm} {ps bs : List Bd} : qcy x t ps bs = true ↔ (∀ p ∈ ps.map (putP x t), p.1.valid = 0 ∧ p.2.valid = 0) ∧ ∀ b ∈ bs.map (putB x t), b.2.valid = 0 := by
 unfold qcy;rw [Bool.and_eq_true, okP_iff, List.all_eq_true];simp only [decide_eq_true_eq]
theorem step_good {a b : Tm} {ps bs : List Bd} (ha : a.valid = 0) (hb : b.valid = 0) (h : (qa8 a b ps bs).1 = 0) (hp : ∀ p ∈ ps, p.1.valid = 0 ∧ p.2.valid = 0) (hbs : ∀ p ∈ bs, p.1.valid = 0 ∧ p.1.kind = 1 ∧ p.2.valid = 0) :
  (∀ p ∈ (qa8 a b ps bs).2.1, p.1.valid = 0 ∧ p.2.valid = 0) ∧ (∀ p ∈ (qa8 a b ps bs).2.2, p.1.valid = 0 ∧ p.1.kind = 1 ∧ p.2.valid = 0) := by
 rcases qdq ha hb h with ⟨rfl, e⟩ | ⟨-, hal, e⟩ | ⟨x, t, hc, hr, e⟩ <;> rw [e]
 ·exact ⟨hp, hbs⟩
 ·refine ⟨fun p hp' => ?_, hbs⟩;rcases List.mem_append.1 hp' with h1 | h1
  ·exact okP_kids ha hb p h1
  ·exact hp p h1
 ·obtain ⟨r1, r2⟩ := qfj.1 hr;refine ⟨r1, fun p hp' => ?_⟩;rcases List.mem_append.1 hp' with h1 | h1
  ·have h2 := r2 p h1;obtain ⟨q, hq, rfl⟩ := List.mem_map.1 h1;exact ⟨(hbs q hq).1, (hbs q hq).2.1, h2⟩
  ·rw [List.mem_singleton] at h1; subst h1; exact ⟨hc.vx, hc.var, hc.vt⟩
theorem qnn {a b : Tm} {ps bs : List Bd} (ha : a.valid = 0) (hb : b.valid = 0) (h : (qa8 a b ps bs).1 = 0) (hp : ∀ p ∈ ps, p.1.valid = 0 ∧ p.2.valid = 0) (hbs : ∀ p ∈ bs, p.1.valid = 0 ∧ p.1.kind = 1 ∧ p.2.valid = 0)
  (hA : ApartU ((a, b) :: ps) bs) : ApartU (qa8 a b ps bs).2.1 (qa8 a b ps bs).2.2 := by
 obtain ⟨hv, hA⟩ := hA;rcases qdq ha hb h with ⟨rfl, e⟩ | ⟨-, hal, e⟩ | ⟨x, t, hc, hr, e⟩ <;> rw [e]
 ·exact ⟨hv, fun c hc => ⟨fun p hp => (hA c hc).1 p (List.mem_cons_of_mem _ hp), (hA c hc).2⟩⟩
 ·refine ⟨hv, fun c hc => ⟨fun p hp => ?_, (hA c hc).2⟩⟩;rcases List.mem_append.1 hp with h1 | h1
  ·obtain ⟨h2, h3⟩ := List.of_mem_zip h1;have h4 := (hA c hc).1 (a, b) (List.mem_cons_self ..);exact ⟨fun h => h4.1 (qeb h2 h), fun h => h4.2 (qeb h3 h)⟩
  ·exact (hA c hc).1 p (List.mem_cons_of_mem _ h1)
 ·have hcx : ∀ c ∈ bs, c.1 ≠ x ∧ c.1 ∉ t.all := fun c hc' => by
   have h4 := (hA c hc').1 (a, b) (List.mem_cons_self ..);rcases hc.pair with ⟨rfl, rfl⟩ | ⟨rfl, rfl⟩
   ·exact ⟨fun e => h4.1 (e ▸ mem_self _), h4.2⟩
   ·exact ⟨fun e => h4.2 (e ▸ mem_self _), h4.1⟩
  have away : ∀ (y : Tm), y.kind = 1 → y ∉ t.all → ∀ u : Tm, u.check = 0 → (y = x ∨ y ∉ u.all) → y ∉ (u.put [(x, t)]).all := fun y hy hyt u hu hor hm => by
   rcases qhp hy u hu hm with ⟨h1, h2⟩ | h1
   ·rcases hor with h3 | h3
    ·exact h2 h3
    ·exact h3 h1
   ·exact hyt h1
  refine ⟨?_, fun c hc' => ?_⟩
  ·refine List.pairwise_append.2 ⟨?_, List.pairwise_singleton .., fun c hc' d hd e => ?_⟩
   ·rw [List.pairwise_map]; exact hv
   ·obtain ⟨q, hq, rfl⟩ := List.mem_map.1 hc';rw [List.mem_singleton] at hd;subst hd;exact (hcx q hq).1 e
  ·have key : ∀ y : Tm, y.kind = 1 → y ∉ t.all → (∀ p ∈ ps, y = x ∨ (y ∉ p.1.all ∧ y ∉ p.2.all)) → (∀ d ∈ bs, y = x ∨ y ∉ d.2.all) →
     (∀ p ∈ ps.map (putP x t), y ∉ p.1.all ∧ y ∉ p.2.all) ∧ ∀ d ∈ bs.map (putB x t) ++ [(x, t)], y ∉ d.2.all := fun y hy hyt h1 h2 => by
    refine ⟨fun p hp' => ?_, fun d hd => ?_⟩
    ·obtain ⟨q, hq, rfl⟩ := List.mem_map.1 hp';have h3 := h1 q hq;exact ⟨away y hy hyt q.1 (qat.1 (hp q hq).1).1 (h3.imp id (·.1)), away y hy hyt q.2 (qat.1 (hp q hq).2).1 (h3.imp id (·.2))⟩
    ·rcases List.mem_append.1 hd with hd | hd
     ·obtain ⟨q, hq, rfl⟩ := List.mem_map.1 hd;exact away y hy hyt q.2 (qat.1 (hbs q hq).2.2).1 (h2 q hq)
     ·rw [List.mem_singleton] at hd; subst hd; exact hyt
   rcases List.mem_append.1 hc' with hc' | hc'
   ·obtain ⟨q, hq, rfl⟩ := List.mem_map.1 hc';exact key q.1 (hbs q hq).2.1 (hcx q hq).2 (fun p hp' => .inr ((hA q hq).1 p (List.mem_cons_of_mem _ hp'))) (fun d hd => .inr ((hA q hq).2 d hd))
   ·rw [List.mem_singleton] at hc'; subst hc';exact key x hc.var hc.out (fun _ _ => .inl rfl) (fun _ _ => .inl rfl)
mutual
theorem qkp (s : List Bd) : ∀ t : Tm, (∀ b ∈ s, b.1 ∉ t.all) → t.put s = t
 | .mk k n so l, h => by
  rw [Tm.put]
  split
  ·exact (qm6 (fun b hb e => h b hb (by rw [Tm.all, ← e]; exact List.mem_cons_self ..))).1
  ·rw [qiv s l (fun b hb hx => h b hb (by rw [Tm.all]; exact List.mem_cons_of_mem _ hx))]
theorem qiv (s : List Bd) : ∀ l : List Tm, (∀ b ∈ s, b.1 ∉ Tm.alls l) → Tm.puts s l = l
 | [], _ => rfl
 | t :: r, h => by
  rw [Tm.puts, qkp s t (fun b hb hx => h b hb (by rw [Tm.alls]; exact List.mem_append_left _ hx)), qiv s r (fun b hb hx => h b hb (by rw [Tm.alls]; exact List.mem_append_right _ hx))]
end
theorem getS_ofU {l : List Bd} (ha : qco l) {b : Bd} (hb : b ∈ l) : getS l b.1 = b.2 := by
 induction l with
 | nil => cases hb
 | cons c r ih =>
  obtain ⟨h1, h2⟩ := List.pairwise_cons.1 ha;rw [getS];rcases List.mem_cons.1 hb with rfl | hb
  ·rw [if_pos rfl]
  ·rw [if_neg (h1 b hb)]; exact ih h2 hb
theorem qhj : ∀ {n : Nat} {ps bs : List Bd} {s : List Bd}, runU n ps bs = some (0, s) → ApartU ps bs → qie s ps bs ∧ qco s ∧ (∀ c ∈ s, ∀ b ∈ s, c.1 ∉ b.2.all) ∧ (∀ p ∈ s, p.1.valid = 0 ∧ p.1.kind = 1 ∧ p.2.valid = 0) ∧ s.length ≤ 1000000
 | 0, _, _, _, h, _ => by rw [runU] at h; cases h
 | n + 1, [], bs, s, h, hA => by
  rw [runU] at h
  split at h
  ·rename_i hg
   obtain ⟨g1, g2, g3, g4⟩ := qc1.1 hg;simp only [Option.some.injEq, Prod.mk.injEq, true_and] at h;subst h;refine ⟨⟨by simp, fun b hb => ?_⟩, hA.1, fun c hc b hb => (hA.2 c hc).2 b hb, g4, g2⟩;rw [put_var (g4 b hb).2.1, getS_ofU hA.1 hb, qkp _ b.2 fun c hc => (hA.2 c hc).2 b hb]
  ·cases h
 | n + 1, p :: ps', bs, s, h, hA => by
  rw [runU] at h
  split at h
  ·rename_i hg
   obtain ⟨g1, g2, g3, g4⟩ := qc1.1 hg
   split at h
   ·rename_i he
    injection h with h; injection h with h _;exact absurd h he
   ·rename_i he
    have he : (qa8 p.1 p.2 ps' bs).1 = 0 := by omega
    have hpv := g3 p (List.mem_cons_self ..);have hps : ∀ q ∈ ps', q.1.valid = 0 ∧ q.2.valid = 0 := fun q hq => g3 q (List.mem_cons_of_mem _ hq);obtain ⟨r1, r2⟩ := qhj h (qnn hpv.1 hpv.2 he hps g4 hA);exact ⟨step_back hpv.1 hpv.2 he r1, r2⟩
  ·cases h
def occP (x : Tm) (ps : List Bd) : Bool := ps.any fun p => occT x p.1 || occT x p.2
def cntU (L : List Tm) (ps : List Bd) : Nat := (L.filter fun x => occP x ps).length
theorem qc7 {x : Tm} {ps : List Bd} : occP x ps = true ↔ ∃ p ∈ ps, x ∈ p.1.all ∨ x ∈ p.2.all := by
 unfold occP occT; simp
theorem qft {p q : Tm → Bool} : ∀ {L : List Tm}, (∀ x ∈ L, q x = true → p x = true) → (L.filter q).length ≤ (L.filter p).length
 | [], _ => Nat.le_refl _
 | x :: r, h => by
  have ih := qft (L := r) fun y hy => h y (List.mem_cons_of_mem _ hy);have hx := h x (List.mem_cons_self ..);rw [List.filter_cons, List.filter_cons]
  cases hq : q x with
  | true => rw [hx hq]; simpa using ih
  | false => cases p x <;> simp <;> omega
theorem qlb {p q : Tm → Bool} : ∀ {L : List Tm}, (∀ x ∈ L, q x = true → p x = true) → (∃ x ∈ L, p x = true ∧ q x = false) → (L.filter q).length < (L.filter p).length
 | [], _, h => by obtain ⟨x, hx, -⟩ := h; cases hx
 | x :: r, h, ⟨y, hy, hp, hq⟩ => by
  have ih := qft (L := r) fun y hy => h y (List.mem_cons_of_mem _ hy);have hx := h x (List.mem_cons_self ..);rw [List.filter_cons, List.filter_cons];rcases List.mem_cons.1 hy with rfl | hy
  ·rw [hp, hq]; simp; omega
  ·have ih2 := qlb (L := r) (fun y hy => h y (List.mem_cons_of_mem _ hy)) ⟨y, hy, hp, hq⟩
   cases hq : q x with
   | true => rw [hx hq]; simpa using ih2
   | false => cases p x <;> simp <;> omega
theorem qc5 : ∀ l m : List Tm, Tm.sizes (l ++ m) = Tm.sizes l + Tm.sizes m
 | [], m => by simp [Tm.sizes]
 | x :: l, m => by rw [List.cons_append, Tm.sizes, Tm.sizes, qc5 l m]; omega
theorem qhg (t : Tm) : 1 ≤ t.size := by cases t; rw [Tm.size]; omega
theorem qee : ∀ l : List Tm, l.length ≤ Tm.sizes l
 | [] => Nat.zero_le _
 | x :: l => by rw [Tm.sizes, List.length_cons]; have := qee l; have := qhg x; omega
theorem qj7 : ∀ {l m : List Tm}, l.length = m.length → Tm.sizes ((l.zip m).map (·.1)) = Tm.sizes l
 | [], [], _ => rfl
 | a :: l, b :: m, h => by
  rw [List.zip_cons_cons, List.map_cons, Tm.sizes, Tm.sizes, qj7 (by simpa using h)]
structure InvU (L : List Tm) (M : Nat) (ps bs : List Bd) : Prop where
 okp : ∀ p ∈ ps, p.1.valid = 0 ∧ p.2.valid = 0
 okb : ∀ p ∈ bs, p.1.valid = 0 ∧ p.1.kind = 1 ∧ p.2.valid = 0
 vars : ∀ p ∈ ps, ∀ y : Tm, y.kind = 1 → (y ∈ p.1.all ∨ y ∈ p.2.all) → y ∈ L
 len : ∃ A B, ps = A ++ B ∧ Tm.sizes (A.map (·.1)) ≤ 400 ∧ B.length + 400 * cntU L ps ≤ M
 blen : bs.length + cntU L ps ≤ L.length
theorem InvU.good {L : List Tm} {M : Nat} {ps bs : List Bd} (h : InvU L M ps bs) (hM : M + 400 ≤ 1000000) (hL : L.length ≤ 1000000) : qk1 ps bs = true := by
 obtain ⟨A, B, e, h1, h2⟩ := h.len;have h3 := qee (A.map (·.1));rw [List.length_map] at h3;have h4 := h.blen;refine qc1.2 ⟨by rw [e, List.length_append]; omega, by omega, h.okp, h.okb⟩
theorem InvU.step {L : List Tm} {M : Nat} {a b : Tm} {ps bs : List Bd} (hL : ∀ x ∈ L, x.kind = 1) (h : InvU L M ((a, b) :: ps) bs) (he : (qa8 a b ps bs).1 = 0) :
  InvU L M (qa8 a b ps bs).2.1 (qa8 a b ps bs).2.2 ∧ (cntU L (qa8 a b ps bs).2.1 < cntU L ((a, b) :: ps) ∨
   (cntU L (qa8 a b ps bs).2.1 ≤ cntU L ((a, b) :: ps) ∧ Tm.sizes ((qa8 a b ps bs).2.1.map (·.1)) < Tm.sizes (((a, b) :: ps).map (·.1)))) := by
 obtain ⟨va, vb⟩ : a.valid = 0 ∧ b.valid = 0 := h.okp (a, b) (List.mem_cons_self ..);have hps : ∀ p ∈ ps, p.1.valid = 0 ∧ p.2.valid = 0 := fun p hp => h.okp p (List.mem_cons_of_mem _ hp);obtain ⟨g1, g2⟩ := step_good va vb he hps h.okb;have hb := h.blen;obtain ⟨A, B, eAB, hA, hB⟩ := h.len;have hsz : Tm.sizes (((a, b) :: ps).map (·.1)) = a.size + Tm.sizes (ps.map (·.1)) := by rw [List.map_cons, Tm.sizes]
 have ha1 := qhg a;rcases qdq va vb he with ⟨-, e⟩ | ⟨-, hal, e⟩ | ⟨x, t, hc, -, e⟩ <;> rw [e] at g1 g2 ⊢ <;> dsimp only at g1 g2 ⊢
 ·have hcnt : cntU L ps ≤ cntU L ((a, b) :: ps) := qft fun y _ hy => by
   obtain ⟨p, hp, h2⟩ := qc7.1 hy;exact qc7.2 ⟨p, List.mem_cons_of_mem _ hp, h2⟩
  refine ⟨⟨g1, g2, fun p hp => h.vars p (List.mem_cons_of_mem _ hp), ?_, by omega⟩, .inr ⟨hcnt, by omega⟩⟩
  cases A with
  | nil =>
   have e2 : (a, b) :: ps = B := eAB;refine ⟨[], ps, rfl, by simp [Tm.sizes], ?_⟩;rw [← e2, List.length_cons] at hB;have := Nat.mul_le_mul_left 400 hcnt; omega
  | cons p A =>
   injection eAB with e1 e2;refine ⟨A, B, e2, ?_, ?_⟩
   ·rw [List.map_cons, Tm.sizes] at hA; omega
   ·have := Nat.mul_le_mul_left 400 hcnt; omega
 ·obtain ⟨k1, k2, hn, hl⟩ := qbb.1 hal;have hcnt : cntU L (a.kids.zip b.kids ++ ps) ≤ cntU L ((a, b) :: ps) := qft fun y _ hy => by
   obtain ⟨p, hp, h2⟩ := qc7.1 hy;rcases List.mem_append.1 hp with hp | hp
   ·obtain ⟨m1, m2⟩ := List.of_mem_zip hp;exact qc7.2 ⟨(a, b), List.mem_cons_self .., h2.imp (qeb m1) (qeb m2)⟩
   ·exact qc7.2 ⟨p, List.mem_cons_of_mem _ hp, h2⟩
  have hka : a.size = 1 + Tm.sizes a.kids := by cases a; rw [Tm.size]; rfl
  have hz := qj7 hl;have ha4 := (qat.1 va).2.1;refine ⟨⟨g1, g2, fun p hp y hy hm => ?_, ?_, by omega⟩, .inr ⟨hcnt, by rw [List.map_append, qc5, hz]; omega⟩⟩
  ·rcases List.mem_append.1 hp with hp | hp
   ·obtain ⟨m1, m2⟩ := List.of_mem_zip hp;exact h.vars (a, b) (List.mem_cons_self ..) y hy (hm.imp (qeb m1) (qeb m2))
   ·exact h.vars p (List.mem_cons_of_mem _ hp) y hy hm
  ·have := Nat.mul_le_mul_left 400 hcnt
   cases A with
   | nil =>
    have e2 : (a, b) :: ps = B := eAB;refine ⟨a.kids.zip b.kids, ps, rfl, Nat.le_trans (Nat.le_of_eq hz) (by omega), ?_⟩;rw [← e2, List.length_cons] at hB;omega
   | cons p A =>
    injection eAB with e1 e2;subst e1;have e2 : ps = A ++ B := e2;refine ⟨a.kids.zip b.kids ++ A, B, by rw [e2, List.append_assoc], ?_, by omega⟩;rw [List.map_cons, Tm.sizes] at hA;rw [List.map_append, qc5, hz];dsimp only at hA;omega
 ·have hxL : x ∈ L := h.vars (a, b) (List.mem_cons_self ..) x hc.var (by rcases hc.pair with ⟨rfl, -⟩ | ⟨rfl, -⟩; exact .inl (mem_self _); exact .inr (mem_self _));have hback : ∀ p ∈ ps.map (putP x t), ∀ y : Tm, y.kind = 1 → (y ∈ p.1.all ∨ y ∈ p.2.all) → (∃ q ∈ (a, b) :: ps, y ∈ q.1.all ∨ y ∈ q.2.all) ∧ y ≠ x := fun p hp y hy hm => by
   obtain ⟨q, hq, rfl⟩ := List.mem_map.1 hp;have ht : y ∈ t.all → (∃ q ∈ (a, b) :: ps, y ∈ q.1.all ∨ y ∈ q.2.all) ∧ y ≠ x := fun hyt => by
    refine ⟨⟨(a, b), List.mem_cons_self .., ?_⟩, fun e => hc.out (e ▸ hyt)⟩;rcases hc.pair with ⟨-, rfl⟩ | ⟨-, rfl⟩
    ·exact .inr hyt
    ·exact .inl hyt
   obtain ⟨c1, c2⟩ := hps q hq;rcases hm with hm | hm
   ·rcases qhp hy q.1 (qat.1 c1).1 hm with ⟨m1, m2⟩ | m1
    ·exact ⟨⟨q, List.mem_cons_of_mem _ hq, .inl m1⟩, m2⟩
    ·exact ht m1
   ·rcases qhp hy q.2 (qat.1 c2).1 hm with ⟨m1, m2⟩ | m1
    ·exact ⟨⟨q, List.mem_cons_of_mem _ hq, .inr m1⟩, m2⟩
    ·exact ht m1
  have hcnt : cntU L (ps.map (putP x t)) < cntU L ((a, b) :: ps) := qlb (fun y hyL hy => by
    obtain ⟨p, hp, h2⟩ := qc7.1 hy;exact qc7.2 (hback p hp y (hL y hyL) h2).1) ⟨x, hxL, qc7.2 ⟨(a, b), List.mem_cons_self .., by rcases hc.pair with ⟨rfl, -⟩ | ⟨rfl, -⟩; exact .inl (mem_self _); exact .inr (mem_self _)⟩, by
     rw [Bool.eq_false_iff];intro hx;obtain ⟨p, hp, h2⟩ := qc7.1 hx;exact (hback p hp x hc.var h2).2 rfl⟩
  refine ⟨⟨g1, g2, fun p hp y hy hm => ?_, ?_, by rw [List.length_append, List.length_map, List.length_singleton]; omega⟩, .inl hcnt⟩
  ·obtain ⟨q, hq, h2⟩ := (hback p hp y hy hm).1;exact h.vars q hq y hy h2
  ·refine ⟨[], ps.map (putP x t), rfl, by simp [Tm.sizes], ?_⟩;rw [List.length_map];have h3 := qee (A.map (·.1));rw [List.length_map] at h3;have h4 := congrArg List.length eAB;rw [List.length_cons, List.length_append] at h4;omega
theorem run_ex {L : List Tm} {M : Nat} (hM : M + 400 ≤ 1000000) (hL1 : L.length ≤ 1000000) (hL : ∀ x ∈ L, x.kind = 1) :
  ∀ (c s : Nat) (ps bs : List Bd), InvU L M ps bs → cntU L ps = c → Tm.sizes (ps.map (·.1)) = s → ∃ n r, runU n ps bs = some r := by
 intro c
 induction c using Nat.strongRecOn with
 | _ c ihc =>
  intro s
  induction s using Nat.strongRecOn with
  | _ s ihs =>
   intro ps bs h hc hs;have hg := h.good hM hL1
   cases ps with
   | nil => exact ⟨1, _, by rw [runU, if_pos hg]⟩
   | cons p ps =>
    by_cases he : (qa8 p.1 p.2 ps bs).1 = 0
    ·obtain ⟨h1, h2⟩ := InvU.step (a := p.1) (b := p.2) hL h he;have h3 : ∃ n r, runU n (qa8 p.1 p.2 ps bs).2.1 (qa8 p.1 p.2 ps bs).2.2 = some r := by
      rcases h2 with h2 | ⟨h2, h3⟩
      ·exact ihc _ (by rw [← hc]; exact h2) _ _ _ h1 rfl rfl
      ·rcases Nat.lt_or_eq_of_le h2 with h4 | h4
       ·exact ihc _ (by rw [← hc]; exact h4) _ _ _ h1 rfl rfl
       ·exact ihs _ (by rw [← hs]; exact h3) _ _ h1 (h4.trans hc) rfl
     obtain ⟨n, r, h3⟩ := h3;exact ⟨n + 1, r, by rw [runU, if_pos hg, if_neg (by simpa using he)]; exact h3⟩
    ·exact ⟨1, _, by rw [runU, if_pos hg, if_pos he]⟩
def qji (ps : List Bd) : List Tm := (ps.flatMap fun p => p.1.all ++ p.2.all).filter fun x => decide (x.kind = 1)
theorem start_ex {ps : List Bd} (hok : ∀ p ∈ ps, p.1.valid = 0 ∧ p.2.valid = 0) (hn : ps.length ≤ 1000) (hv : (qji ps).length ≤ 2000) : ∃ n r, runU n ps [] = some r := by
 have hcnt : cntU (qji ps) ps ≤ (qji ps).length := List.length_filter_le _ _;refine run_ex (L := qji ps) (M := ps.length + 400 * (qji ps).length) (by omega) (by omega) (fun x hx => by simpa using (List.mem_filter.1 hx).2) _ _ ps [] ⟨hok, by simp, fun p hp y hy hm => ?_, ⟨[], ps, rfl, by simp [Tm.sizes], by omega⟩, by simpa using hcnt⟩ rfl rfl;unfold qji;refine List.mem_filter.2 ⟨List.mem_flatMap.2 ⟨p, hp, List.mem_append.2 hm⟩, by simpa using hy⟩
def solvedU (r : Int × List Bd) : List Bd × Int := (if r.1 = 0 then qij r.2 else [], r.1)
end Go.Proofs.YtpjmdilpldaapaaGreatDoor
namespace Go.Proofs.YtpjmdilpldaapaaGreatDoor
open Go.RowKit Go.Maps
def RV : Value → Option (DataW Value × List MemPlace) := fun v => some (.held v, [])
def keyV (x : Tm) : Value := .agg #[.string x.name, .int .i64 x.sort]
def qbm (x : Tm) : Prop := x.name.size ≤ maxLen ∧ 0 ≤ x.sort ∧ x.sort ≤ 5
theorem qky : Keyed Tryz.prog 66 := Keyed.of_law (deep_law_laid laidOut (m := 5) (by decide) (of_decide_eq_true (by kernel_rfl)) (by kernel_rfl) (by kernel_rfl))
def keyL (x : Tm) : Lit := .string (keyBytes [.string x.name.data.toList, .int .i64 x.sort])
theorem fieldsI : ∃ f0 f1 : Field, Tryz.prog.underlying 66 = some (.struct #[f0, f1]) ∧ (f0.type = 9 ∧ f0.offset = 0 ∧ (f0.name != "_") = true) ∧ (f1.type = 3 ∧ f1.offset = 1 ∧ (f1.name != "_") = true) :=
 ⟨_, _, Tryz.underlying66, ⟨rfl, rfl, by decide⟩, ⟨rfl, rfl, by decide⟩⟩
theorem lits_one {d : Nat} {x : Tm} (h : qbm x) : Tryz.prog.keyLits (d + 1) 9 [.string x.name] = some [.string x.name.data.toList] ∧ Tryz.prog.keyLits (d + 1) 3 [.int .i64 x.sort] = some [.int .i64 x.sort] := by
 constructor
 ·unfold Program.keyLits;rw [Tryz.underlying9];exact if_pos h.1
 ·unfold Program.keyLits;rw [Tryz.underlying3];refine if_pos ⟨rfl, ?_⟩;have := h.2;have e : (Lit.int IntKind.i64 x.sort).wf = (decide (IntKind.i64.min ≤ x.sort) && decide (x.sort ≤ IntKind.i64.max)) := rfl;rw [e, Bool.and_eq_true, decide_eq_true_eq, decide_eq_true_eq];exact ⟨Int.le_trans (by decide) this.1, Int.le_trans this.2 (by decide)⟩
theorem qeq {x : Tm} (h : qbm x) : keyOf Tryz.prog 66 (keyV x) = some (keyL x) := by
 obtain ⟨f0, f1, hu, ⟨t0, o0, n0⟩, ⟨t1, o1, n1⟩⟩ := fieldsI;have hc : Tryz.prog.cellsOf 66 = 2 := by kernel_rfl
 have hc0 : Tryz.prog.cellsOf 9 = 1 := by kernel_rfl
 have hc1 : Tryz.prog.cellsOf 3 = 1 := by kernel_rfl
 have hk : Tryz.prog.keyType 66 = true := by kernel_rfl
 obtain ⟨d, hd⟩ : ∃ d, Tryz.prog.types.size = d + 1 := ⟨Tryz.prog.types.size - 1, by have : 0 < Tryz.prog.types.size := of_decide_eq_true (by kernel_rfl); omega⟩;have hf : (keyV x).formed Tryz.prog 66 = true := by
  unfold keyV Value.formed;rw [hu, hc]; rfl
 have hl : Tryz.prog.keyLits (Tryz.prog.types.size + 1) 66 (keyV x).cells.toList = some [.string x.name.data.toList, .int .i64 x.sort] := by
  unfold Program.keyLits;rw [hu];obtain ⟨a, b⟩ := lits_one (d := d) h;have e : (keyV x).cells.toList = [.string x.name, .int .i64 x.sort] := rfl;rw [e, hc, hd];simp [n0, n1, t0, t1, o0, o1, hc0, hc1, a, b]
 unfold keyOf;rw [hu];dsimp only;rw [hk, hf, hl];rfl
theorem key_inj {x y : Tm} (hx : qbm x) (hy : qbm y) (h : keyL x = keyL y) : x.name = y.name ∧ x.sort = y.sort := by
 have := qky.inj (qeq hx) (by rw [h]; exact qeq hy);unfold keyV at this;simpa using this
def qa9 (w : World) (b n : Nat) (F : Tm → Option Value) : Prop :=
 ∃ D, w.ownsMap Tryz.prog 66 RV b n D ∧ ∀ x, qbm x → Maps.has D (keyL x) = (F x).isSome ∧ ∀ v zd, F x = some v → D.atKey (keyL x) zd = .held v
theorem qa9.below {w w' : World} {b n : Nat} {F : Tm → Option Value} (h : qa9 w b n F) (hb : ∀ k, k < w.heap.size → w'.heap[k]? = w.heap[k]?) : qa9 w' b n F := by
 obtain ⟨D, ⟨es, clock, h1, h2⟩, h3⟩ := h;exact ⟨D, ⟨es, clock, by rw [hb b (Array.getElem?_eq_some_iff.1 h1).1]; exact h1, h2⟩, h3⟩
theorem qa9.keep {w w' : World} {b n : Nat} {F : Tm → Option Value} (h : qa9 w b n F) (hb : w'.heap[b]? = w.heap[b]?) : qa9 w' b n F := by
 obtain ⟨D, ⟨es, clock, h1, h2⟩, h3⟩ := h;exact ⟨D, ⟨es, clock, by rw [hb]; exact h1, h2⟩, h3⟩
theorem qa9.lt {w : World} {b n : Nat} {F : Tm → Option Value} (h : qa9 w b n F) : b < w.heap.size := by
 obtain ⟨D, ⟨es, clock, h1, h2⟩, h3⟩ := h;exact (Array.getElem?_eq_some_iff.1 h1).1
theorem qa9.congr {w : World} {b n : Nat} {F G : Tm → Option Value} (h : qa9 w b n F) (he : ∀ x, qbm x → F x = G x) : qa9 w b n G := by
 obtain ⟨D, h1, h2⟩ := h;exact ⟨D, h1, fun x hx => by rw [← he x hx]; exact h2 x hx⟩
theorem qa9.made (w : World) : qa9 (w.alloc (.map #[] 0)) w.heap.size 0 (fun _ => none) :=
 ⟨.map [], World.ownsMap_made w _ _ _, fun x _ => ⟨rfl, fun v zd h => by cases h⟩⟩
def qjg : Value := .agg #[.int .i64 0, .string ⟨#[]⟩, .int .i64 0, .slice none 0 0]
theorem qmj (w : World) : (zeroValue 24).run Tryz.prog w = .ok qjg w := by
 kernel_rfl
theorem qa9.look {w : World} {b n : Nat} {F : Tm → Option Value} (h : qa9 w b n F) {x : Tm} (hx : qbm x) :
  (Instr.lookup 62 (.map (some b)) (keyV x) true).run Tryz.prog w = .ok (.tuple #[(F x).getD qjg, .bool (F x).isSome]) w := by
 obtain ⟨D, h1, h2⟩ := h;obtain ⟨v, ps, hr, hv⟩ := h1.look_ok qky Tryz.underlying62 (qmj w) (zd := .held qjg) (zp := []) rfl (qeq hx);obtain ⟨h3, h4⟩ := h2 x hx;rw [hr, h3];simp only [RV, Option.some.injEq, Prod.mk.injEq] at hv
 cases hF : F x with
 | none =>
  rw [hF] at h3;rw [atKey_of_not_has h3] at hv;have e := DataW.held.inj hv.1;subst e; rfl
 | some u =>
  rw [h4 u _ hF] at hv;have e := DataW.held.inj hv.1;subst e; rfl
theorem qa9.store {w : World} {b n : Nat} {F : Tm → Option Value} (h : qa9 w b n F) (hn : n < maxLen) {x : Tm} (hx : qbm x) (v : Value) :
  ∃ w', (Instr.mapUpdate 62 (.map (some b)) (keyV x) v).run Tryz.prog w = .ok () w' ∧ qa9 w' b (n + 1) (fun y => if y.name = x.name ∧ y.sort = x.sort then some v else F y) ∧ w.mapTurned w' b := by
 obtain ⟨D, h1, h2⟩ := h;obtain ⟨w', hr, ho, ht⟩ := h1.store qky Tryz.underlying62 hn (qeq hx) (val := v) (d := .held v) (ps := []) rfl;refine ⟨w', hr, ⟨_, ho, fun y hy => ?_⟩, ht⟩;dsimp only;by_cases e : y.name = x.name ∧ y.sort = x.sort
 ·have ek : keyL y = keyL x := by unfold keyL; rw [e.1, e.2]
  have hk := qky.key (qeq hx);rw [if_pos e, ek];exact ⟨has_put_same h1.isMap hk _, fun u zd hu => by have e := Option.some.inj hu; subst e; exact atKey_put_same h1.isMap hk _ _⟩
 ·rw [if_neg e];have hne : keyL y ≠ keyL x := fun h => e (key_inj hy hx h);rw [has_put_other hne];exact ⟨(h2 y hy).1, fun u zd hu => by rw [atKey_put_other hne]; exact (h2 y hy).2 u zd hu⟩
theorem keyedS : Keyed Tryz.prog 9 := string_keyed Tryz.underlying9
def keyS (s : ByteArray) : Lit := .string s.data.toList
theorem qhu {s : ByteArray} (h : s.size ≤ maxLen) : keyOf Tryz.prog 9 (.string s) = some (keyS s) := by
 unfold keyOf;rw [Tryz.underlying9];exact if_pos h
theorem keyS_inj {s t : ByteArray} (h : keyS s = keyS t) : s = t := by
 unfold keyS at h;injection h with h;exact ByteArray.ext (Array.toList_inj.1 h)
def qdg (w : World) (b n : Nat) (N : List ByteArray) : Prop :=
 ∃ D, w.ownsMap Tryz.prog 9 RV b n D ∧ ∀ s : ByteArray, s.size ≤ maxLen → (s ∈ N ∧ ∀ zd, D.atKey (keyS s) zd = .held (.bool true)) ∨ (s ∉ N ∧ ∀ zd, D.atKey (keyS s) zd = zd)
theorem qdg.keep {w w' : World} {b n : Nat} {N : List ByteArray} (h : qdg w b n N) (hb : w'.heap[b]? = w.heap[b]?) : qdg w' b n N := by
 obtain ⟨D, ⟨es, clock, h1, h2⟩, h3⟩ := h;exact ⟨D, ⟨es, clock, by rw [hb]; exact h1, h2⟩, h3⟩
theorem qdg.lt {w : World} {b n : Nat} {N : List ByteArray} (h : qdg w b n N) : b < w.heap.size := by
 obtain ⟨D, ⟨es, clock, h1, h2⟩, h3⟩ := h;exact (Array.getElem?_eq_some_iff.1 h1).1
theorem qdg.congr {w : World} {b n : Nat} {N M : List ByteArray} (h : qdg w b n N) (he : ∀ s, s ∈ N ↔ s ∈ M) : qdg w b n M := by
 obtain ⟨D, h1, h2⟩ := h;exact ⟨D, h1, fun s hs => (h2 s hs).imp (fun h => ⟨(he s).1 h.1, h.2⟩) (fun h => ⟨fun e => h.1 ((he s).2 e), h.2⟩)⟩
theorem qdg.made (w : World) : qdg (w.alloc (.map #[] 0)) w.heap.size 0 [] :=
 ⟨.map [], World.ownsMap_made w _ _ _, fun s _ => .inr ⟨by simp, fun zd => rfl⟩⟩
theorem zeroB_run (w : World) : (zeroValue 4).run Tryz.prog w = .ok (.bool false) w := by
 kernel_rfl
theorem qdg.look {w : World} {b n : Nat} {N : List ByteArray} (h : qdg w b n N) {s : ByteArray} (hs : s.size ≤ maxLen) (q : Bool) (hq : q = true ↔ s ∈ N) :
  (Instr.lookup 71 (.map (some b)) (.string s) false).run Tryz.prog w = .ok (.bool q) w := by
 obtain ⟨D, h1, h2⟩ := h;obtain ⟨v, ps, hr, hv⟩ := h1.lookup keyedS Tryz.underlying71 (zeroB_run w) (zd := .held (.bool false)) (zp := []) rfl (qhu hs);rw [hr];simp only [RV, Option.some.injEq, Prod.mk.injEq] at hv;rcases h2 s hs with ⟨h3, h4⟩ | ⟨h3, h4⟩
 ·rw [h4] at hv;have e := DataW.held.inj hv.1;rw [e, hq.2 h3]
 ·rw [h4] at hv;have e := DataW.held.inj hv.1;have hqf : q = false := by
   cases q with
   | false => rfl
   | true => exact absurd (hq.1 rfl) h3
  rw [e, hqf]
theorem qdg.store {w : World} {b n : Nat} {N : List ByteArray} (h : qdg w b n N) (hn : n < maxLen) {s : ByteArray} (hs : s.size ≤ maxLen) :
  ∃ w', (Instr.mapUpdate 71 (.map (some b)) (.string s) (.bool true)).run Tryz.prog w = .ok () w' ∧ qdg w' b (n + 1) (s :: N) ∧ w.mapTurned w' b := by
 obtain ⟨D, h1, h2⟩ := h;obtain ⟨w', hr, ho, ht⟩ := h1.store keyedS Tryz.underlying71 hn (qhu hs) (val := .bool true) (d := .held (.bool true)) (ps := []) rfl;refine ⟨w', hr, ⟨_, ho, fun y hy => ?_⟩, ht⟩;by_cases e : y = s
 ·subst e;exact .inl ⟨List.mem_cons_self .., fun zd => atKey_put_same h1.isMap (keyedS.key (qhu hs)) _ _⟩
 ·have hne : keyS y ≠ keyS s := fun h => e (keyS_inj h);rcases h2 y hy with ⟨h3, h4⟩ | ⟨h3, h4⟩
  ·exact .inl ⟨List.mem_cons_of_mem _ h3, fun zd => by rw [atKey_put_other hne]; exact h4 zd⟩
  ·refine .inr ⟨fun h => ?_, fun zd => by rw [atKey_put_other hne]; exact h4 zd⟩;rcases List.mem_cons.1 h with h | h
   ·exact e h
   ·exact h3 h
end Go.Proofs.YtpjmdilpldaapaaGreatDoor
namespace Go.Proofs.YtpjmdilpldaapaaGreatDoor
theorem qbk (x : Tm) : ∀ s : List Bd, (∃ b ∈ s, b.1 = x ∧ getS s x = b.2) ∨ (getS s x = x ∧ ∀ b ∈ s, b.1 ≠ x)
 | [] => .inr ⟨rfl, by simp⟩
 | b :: r => by
  rw [getS];by_cases h : b.1 = x
  ·rw [if_pos h]; exact .inl ⟨b, by simp, h, rfl⟩
  ·rw [if_neg h];rcases qbk x r with ⟨c, hc, h1, h2⟩ | ⟨h1, h2⟩
   ·exact .inl ⟨c, List.mem_cons_of_mem _ hc, h1, h2⟩
   ·refine .inr ⟨h1, fun c hc => ?_⟩;rcases List.mem_cons.1 hc with rfl | hc
    ·exact h
    ·exact h2 c hc
theorem qbi {t : Tm} {r : List Tm} (h : Tm.checks (t :: r) = 0) : t.check = 0 ∧ Tm.checks r = 0 :=
 ⟨qbg.1 h t (List.mem_cons_self ..), qbg.2 fun z hz => qbg.1 h z (List.mem_cons_of_mem _ hz)⟩
mutual
theorem qcg {s : List Bd} (hs : ∀ b ∈ s, b.2.check = 0) : ∀ t : Tm, t.check = 0 → (t.put s).check = 0
 | .mk k n so l, h => by
  rw [Tm.put]
  split
  ·rcases qbk (.mk k n so l) s with ⟨b, hb, -, e⟩ | ⟨e, -⟩
   ·rw [e]; exact hs b hb
   ·rw [e]; exact h
  ·rename_i hk
   rcases qb5 h with ⟨-, rfl⟩ | ⟨h3, h4, h5⟩
   ·exact h
   ·subst h3;have h6 := qhm hs l h5;rw [Tm.check] at h ⊢;rw [Tm.puts_length];rw [if_neg (by omega), if_pos rfl] at h ⊢
    split at h
    ·omega
    ·split at h
     ·omega
     ·split at h
      ·omega
      ·rename_i g1 g2 g3
       rw [if_neg g1, if_neg g2, if_neg g3]; exact h6
theorem qhm {s : List Bd} (hs : ∀ b ∈ s, b.2.check = 0) : ∀ l : List Tm, Tm.checks l = 0 → Tm.checks (Tm.puts s l) = 0
 | [], _ => rfl
 | t :: r, h => by
  obtain ⟨h1, h2⟩ := qbi h;rw [Tm.puts, Tm.checks, if_neg (by simpa using qcg hs t h1)];exact qhm hs r h2
end
mutual
theorem qhf (s : List Bd) : ∀ t : Tm, t.check = 0 → t.size ≤ (t.put s).size
 | .mk k n so l, h => by
  rw [Tm.put]
  split
  ·rename_i hk
   rcases qb5 h with ⟨-, rfl⟩ | ⟨h3, -, -⟩
   ·rw [Tm.size, Tm.sizes]; exact qhg _
   ·omega
  ·rw [Tm.size, Tm.size];rcases qb5 h with ⟨-, rfl⟩ | ⟨-, -, h5⟩
   ·exact Nat.le_refl _
   ·have := qfh s l h5; omega
theorem qfh (s : List Bd) : ∀ l : List Tm, Tm.checks l = 0 → Tm.sizes l ≤ Tm.sizes (Tm.puts s l)
 | [], _ => Nat.le_refl _
 | t :: r, h => by
  obtain ⟨h1, h2⟩ := qbi h;have := qhf s t h1;have := qfh s r h2;rw [Tm.puts, Tm.sizes, Tm.sizes]; omega
end
theorem qol (t : Tm) : 1 ≤ t.depth := by cases t; rw [Tm.depth]; omega
mutual
theorem qgr (s : List Bd) : ∀ t : Tm, t.check = 0 → t.depth ≤ (t.put s).depth
 | .mk k n so l, h => by
  rw [Tm.put]
  split
  ·rename_i hk
   rcases qb5 h with ⟨-, rfl⟩ | ⟨h3, -, -⟩
   ·rw [Tm.depth, Tm.depths]; exact qol _
   ·omega
  ·rw [Tm.depth, Tm.depth];rcases qb5 h with ⟨-, rfl⟩ | ⟨-, -, h5⟩
   ·exact Nat.le_refl _
   ·have := qez s l h5; omega
theorem qez (s : List Bd) : ∀ l : List Tm, Tm.checks l = 0 → Tm.depths l ≤ Tm.depths (Tm.puts s l)
 | [], _ => Nat.le_refl _
 | t :: r, h => by
  obtain ⟨h1, h2⟩ := qbi h;have := qgr s t h1;have := qez s r h2;rw [Tm.puts, Tm.depths, Tm.depths]; omega
end
theorem qgg {s : List Bd} {t : Tm} (h : t.check = 0) (hv : (t.put s).valid = 0) : t.valid = 0 := by
 obtain ⟨-, h2, h3⟩ := qat.1 hv;have := qhf s t h;have := qgr s t h;exact qat.2 ⟨h, by omega, by omega⟩
theorem check_valid {t : Tm} (h : t.valid = 0) : t.check = 0 := (qat.1 h).1
theorem qko {s : List Bd} {t : Tm} (hk : t.kind ≠ 1) : t.put s = .mk t.kind t.name t.sort (Tm.puts s t.kids) := by
 obtain ⟨kd, n, so, l⟩ := t;have hk : kd ≠ 1 := hk;rw [Tm.put, if_neg hk]; rfl
mutual
theorem qgn (s : List Bd) {x : Tm} (hx : x.kind = 1) : ∀ t : Tm, t.check = 0 → x ∈ t.all → (x.put s).size ≤ (t.put s).size ∧ (t.kind ≠ 1 → (x.put s).size < (t.put s).size)
 | .mk k n so l, h, hm => by
  rw [Tm.all] at hm;rcases List.mem_cons.1 hm with rfl | hm
  ·exact ⟨Nat.le_refl _, fun h => absurd hx h⟩
  ·rcases qb5 h with ⟨-, rfl⟩ | ⟨h3, -, h5⟩
   ·simp [Tm.alls] at hm
   ·have := qfp s hx l h5 hm;rw [qko (t := .mk k n so l) (by show k ≠ 1; omega)];have e : (Tm.mk k n so l).kids = l := rfl;rw [e, Tm.size];exact ⟨by omega, fun _ => by omega⟩
theorem qfp (s : List Bd) {x : Tm} (hx : x.kind = 1) : ∀ l : List Tm, Tm.checks l = 0 → x ∈ Tm.alls l → (x.put s).size ≤ Tm.sizes (Tm.puts s l)
 | [], _, hm => by simp [Tm.alls] at hm
 | t :: r, h, hm => by
  obtain ⟨h1, h2⟩ := qbi h;rw [Tm.alls] at hm;rw [Tm.puts, Tm.sizes];rcases List.mem_append.1 hm with hm | hm
  ·have := (qgn s hx t h1 hm).1; omega
  ·have := qfp s hx r h2 hm; omega
end
def FitS (τ : List Bd) : Prop := ∀ b ∈ τ, b.2.check = 0 ∧ (b.1.sort = 0 ∨ (b.2.kind ≠ 3 ∧ b.2.sort = b.1.sort))
theorem FitS.check {τ : List Bd} (h : FitS τ) : ∀ b ∈ τ, b.2.check = 0 := fun b hb => (h b hb).1
theorem FitS.sort {τ : List Bd} (h : FitS τ) {x : Tm} (hk : x.kind = 1) (hs : x.sort ≠ 0) : (x.put τ).sort = x.sort ∧ (x.put τ).kind ≠ 3 := by
 rw [put_var hk];rcases qbk x τ with ⟨b, hb, e1, e2⟩ | ⟨e, -⟩
 ·rw [e2];rcases (h b hb).2 with h0 | ⟨h1, h2⟩
  ·rw [e1] at h0; exact absurd h0 hs
  ·rw [e1] at h2; exact ⟨h2, h1⟩
 ·rw [e]; exact ⟨rfl, by omega⟩
theorem qhs {t : Tm} (h : t.valid = 0) : (t.kind = 1 ∧ t.kids = []) ∨ (t.kind = 2 ∧ t.kids = []) ∨ t.kind = 3 := by
 obtain ⟨kd, n, so, l⟩ := t;rcases qb5 (check_valid h) with ⟨h1 | h1, h2⟩ | ⟨h1, -, -⟩
 ·exact .inl ⟨h1, h2⟩
 ·exact .inr (.inl ⟨h1, h2⟩)
 ·exact .inr (.inr h1)
theorem oneU_on {x t : Tm} {τ : List Bd} (hx : x.valid = 0) (ht : t.valid = 0) (hk : x.kind = 1) (htk : t.kind ≠ 1) (hf : FitS τ) (h : x.put τ = t.put τ) : (oneU x t).2.2 = 0 := by
 have h1 : fits x t = true := by
  unfold fits;simp only [hx, ht, hk, decide_true, Bool.true_and, Bool.or_eq_true, Bool.and_eq_true, decide_eq_true_eq];by_cases h0 : x.sort = 0
  ·exact .inl h0
  ·obtain ⟨g1, g2⟩ := hf.sort hk h0;rw [h, qko htk] at g1 g2;exact .inr ⟨g2, g1⟩
 have h2 : ¬ occT x t = true := by
  unfold occT;intro hm;have := (qgn τ hk t (check_valid ht) (by simpa using hm)).2 htk;rw [h] at this; omega
 unfold oneU;rw [if_neg (by simp [h1]), if_neg h2]
theorem choose_on {a b : Tm} {τ : List Bd} (ha : a.valid = 0) (hb : b.valid = 0) (hf : FitS τ) (hne : a ≠ b) (hal : ¬ qbc a b = true) (h : a.put τ = b.put τ) : (qan a b).2.2 = 0 := by
 unfold qan;by_cases ka : a.kind = 1
 ·rw [if_pos ka];by_cases kb : b.kind = 1
  ·rw [if_pos kb];by_cases hs : a.sort = b.sort
   ·rw [if_pos hs]; split <;> rfl
   ·rw [if_neg hs];by_cases h0 : b.sort = 0
    ·rw [if_pos h0]
    ·rw [if_neg h0];by_cases h1 : a.sort = 0
     ·rw [if_pos h1]
     ·exact absurd (by rw [← (hf.sort ka h1).1, h, (hf.sort kb h0).1]) hs
  ·rw [if_neg kb]; exact oneU_on ha hb ka kb hf h
 ·rw [if_neg ka];by_cases kb : b.kind = 1
  ·rw [if_pos kb]; exact oneU_on hb ha kb ka hf h.symm
  ·exfalso;rw [qko ka, qko kb] at h;injection h with e1 e2 e3 e4;have hl := congrArg List.length e4;rw [Tm.puts_length, Tm.puts_length] at hl;rcases qhs ha with ⟨k, -⟩ | ⟨k2, l2⟩ | k3
   ·exact ka k
   ·rw [l2] at hl;apply hne;obtain ⟨x1, x2, x3, x4⟩ := a;obtain ⟨y1, y2, y3, y4⟩ := b;simp only [Tm.kind, Tm.name, Tm.sort, Tm.kids] at e1 e2 e3 hl l2;subst l2;rw [e1, e2, e3, List.length_eq_zero_iff.1 hl.symm]
   ·exact hal (qbb.2 ⟨k3, by rw [← e1]; exact k3, e2, hl⟩)
def VadU (τ ps bs : List Bd) : Prop := (∀ p ∈ ps, (p.1.put τ).valid = 0 ∧ (p.2.put τ).valid = 0) ∧ ∀ b ∈ bs, (b.2.put τ).valid = 0
theorem qnm {a b : Tm} {ps bs τ : List Bd} (ha : a.valid = 0) (hb : b.valid = 0) (hps : ∀ p ∈ ps, p.1.valid = 0 ∧ p.2.valid = 0) (hbs : ∀ p ∈ bs, p.1.valid = 0 ∧ p.1.kind = 1 ∧ p.2.valid = 0) (hf : FitS τ)
  (hs : qie τ ((a, b) :: ps) bs) (hv : VadU τ ((a, b) :: ps) bs) : (qa8 a b ps bs).1 = 0 ∧ VadU τ (qa8 a b ps bs).2.1 (qa8 a b ps bs).2.2 := by
 have h0 : a.put τ = b.put τ := hs.1 (a, b) (List.mem_cons_self ..);have hv0 := hv.1 (a, b) (List.mem_cons_self ..);have hv1 : ∀ p ∈ ps, (p.1.put τ).valid = 0 ∧ (p.2.put τ).valid = 0 := fun p hp => hv.1 p (List.mem_cons_of_mem _ hp);unfold qa8;by_cases he : a = b
 ·rw [if_pos he]; exact ⟨rfl, hv1, hv.2⟩
 rw [if_neg he];by_cases hal : qbc a b = true
 ·rw [if_pos hal];refine ⟨rfl, fun p hp => ?_, hv.2⟩;rcases List.mem_append.1 hp with hp | hp
  ·obtain ⟨k1, k2, -, -⟩ := qbb.1 hal;obtain ⟨m1, m2⟩ := List.of_mem_zip hp;have g1 := hv0.1;have g2 := hv0.2;dsimp only at g1 g2;rw [put_app k1] at g1;rw [put_app k2] at g2;exact ⟨qa7 g1 (by show _ ∈ Tm.puts τ a.kids; rw [Tm.puts_eq]; exact List.mem_map_of_mem m1), qa7 g2 (by show _ ∈ Tm.puts τ b.kids; rw [Tm.puts_eq]; exact List.mem_map_of_mem m2)⟩
  ·exact hv1 p hp
 rw [if_neg hal];have hc := choose_on ha hb hf he hal h0;rw [if_neg (by simpa using hc)];have hC := qh6 ha hb he hc;obtain ⟨x, hx⟩ : ∃ x, x = (qan a b).1 := ⟨_, rfl⟩;obtain ⟨t, ht⟩ : ∃ t, t = (qan a b).2.1 := ⟨_, rfl⟩;rw [← hx, ← ht] at hC ⊢;have hxt : x.put τ = t.put τ := by
  rcases hC.pair with ⟨e1, e2⟩ | ⟨e1, e2⟩
  ·rw [e1, e2]; exact h0
  ·rw [e1, e2]; exact h0.symm
 have hsk : ∀ c ∈ [(x, t)], c.2.check = 0 := fun c hc => by rw [List.mem_singleton] at hc; subst hc; exact check_valid hC.vt
 have key : ∀ u : Tm, u.valid = 0 → (u.put τ).valid = 0 → (u.put [(x, t)]).valid = 0 := fun u h1 h2 =>
  qgg (s := τ) (qcg hsk u (check_valid h1)) (by rw [qck hxt]; exact h2)
 have hr : qcy x t ps bs = true := qfj.2 ⟨fun p hp => by
   obtain ⟨q, hq, rfl⟩ := List.mem_map.1 hp;exact ⟨key _ (hps q hq).1 (hv1 q hq).1, key _ (hps q hq).2 (hv1 q hq).2⟩, fun c hc => by
   obtain ⟨q, hq, rfl⟩ := List.mem_map.1 hc;exact key _ (hbs q hq).2.2 (hv.2 q hq)⟩
 rw [if_pos hr];refine ⟨rfl, fun p hp => ?_, fun c hc => ?_⟩
 ·obtain ⟨q, hq, rfl⟩ := List.mem_map.1 hp;unfold putP;rw [qck hxt, qck hxt]; exact hv1 q hq
 ·rcases List.mem_append.1 hc with hc | hc
  ·obtain ⟨q, hq, rfl⟩ := List.mem_map.1 hc;unfold putB;rw [qck hxt]; exact hv.2 q hq
  ·rw [List.mem_singleton] at hc;subst hc;show (t.put τ).valid = 0;rcases hC.pair with ⟨-, e2⟩ | ⟨-, e2⟩
   ·rw [e2]; exact hv0.2
   ·rw [e2]; exact hv0.1
theorem qgi {τ : List Bd} (hf : FitS τ) : ∀ {n : Nat} {ps bs : List Bd} {r : Int × List Bd}, runU n ps bs = some r → qie τ ps bs → VadU τ ps bs → r.1 = 0 ∧ ∀ b ∈ r.2, b.1.put τ = b.2.put τ
 | 0, _, _, _, h, _, _ => by rw [runU] at h; cases h
 | n + 1, [], bs, r, h, hs, _ => by
  rw [runU] at h
  split at h
  ·have h := Option.some.inj h;subst h;exact ⟨rfl, hs.2⟩
  ·cases h
 | n + 1, p :: ps, bs, r, h, hs, hv => by
  rw [runU] at h
  split at h
  ·rename_i hg
   obtain ⟨g1, g2, g3, g4⟩ := qc1.1 hg;have hpv := g3 p (List.mem_cons_self ..);have hps : ∀ q ∈ ps, q.1.valid = 0 ∧ q.2.valid = 0 := fun q hq => g3 q (List.mem_cons_of_mem _ hq);obtain ⟨e0, hv'⟩ := qnm hpv.1 hpv.2 hps g4 hf hs hv;rw [if_neg (by simpa using e0)] at h;exact qgi hf h (step_on hpv.1 hpv.2 e0 hs) hv'
  ·cases h
mutual
theorem qiw {s τ : List Bd} (h : ∀ b ∈ s, b.1.put τ = b.2.put τ) : ∀ t : Tm, (t.put s).put τ = t.put τ
 | .mk k n so l => by
  rw [Tm.put]
  split
  ·rcases qbk (.mk k n so l) s with ⟨b, hb, e1, e2⟩ | ⟨e, -⟩
   ·rw [e2, ← h b hb, e1]
   ·rw [e]
  ·rename_i hk
   rw [Tm.put, if_neg hk, Tm.put, if_neg hk, qhn h l]
theorem qhn {s τ : List Bd} (h : ∀ b ∈ s, b.1.put τ = b.2.put τ) : ∀ l : List Tm, Tm.puts τ (Tm.puts s l) = Tm.puts τ l
 | [] => rfl
 | t :: r => by rw [Tm.puts, Tm.puts, Tm.puts, qiw h t, qhn h r]
end
theorem qey {n : Nat} {ps τ : List Bd} {r : Int × List Bd} (h : runU n ps [] = some r) (hf : FitS τ) (hs : ∀ p ∈ ps, p.1.put τ = p.2.put τ) (hv : ∀ p ∈ ps, (p.1.put τ).valid = 0 ∧ (p.2.put τ).valid = 0) :
  r.1 = 0 ∧ ∀ t : Tm, (t.put (solvedU r).1).put τ = t.put τ := by
 obtain ⟨h0, h1⟩ := qgi hf h ⟨hs, by simp⟩ ⟨hv, by simp⟩;refine ⟨h0, fun t => ?_⟩;unfold solvedU;rw [if_pos h0];exact qiw (fun b hb => h1 b ((qel _).mem_iff.1 hb)) t
theorem qi8 : ∀ a b : Nat, Lib.decDigits a = Lib.decDigits b → a = b := by
 intro a
 induction a using Nat.strongRecOn with
 | _ a ih =>
  intro b h;have hp : ∀ n : Nat, 1 ≤ (Lib.decDigits n).length := fun n => by
   rw [Lib.decDigits]; split <;> simp
  have hc : ∀ x y : Nat, x < 10 → y < 10 → UInt8.ofNat (48 + x) = UInt8.ofNat (48 + y) → x = y := fun x y hx hy h => by
   have := congrArg UInt8.toNat h;rw [UInt8.toNat_ofNat', UInt8.toNat_ofNat'] at this; omega
  by_cases ha : a < 10
  ·by_cases hb : b < 10
   ·rw [Lib.decDigits_one ha, Lib.decDigits_one hb] at h;exact hc a b ha hb (by injection h)
   ·rw [Lib.decDigits_one ha] at h;rw [Lib.decDigits, dif_neg hb] at h;have h5 := congrArg List.length h;have h6 := hp (b / 10);rw [List.length_append] at h5;simp only [List.length_singleton] at h5; omega
  ·by_cases hb : b < 10
   ·rw [Lib.decDigits_one hb, Lib.decDigits, dif_neg ha] at h;have h5 := congrArg List.length h;have h6 := hp (a / 10);rw [List.length_append] at h5;simp only [List.length_singleton] at h5; omega
   ·have ea : Lib.decDigits a = Lib.decDigits (a / 10) ++ [UInt8.ofNat (48 + a % 10)] := by rw [Lib.decDigits, dif_neg ha]
    have eb : Lib.decDigits b = Lib.decDigits (b / 10) ++ [UInt8.ofNat (48 + b % 10)] := by rw [Lib.decDigits, dif_neg hb]
    rw [ea, eb] at h;have h1 := List.append_inj' h (by simp);have h2 := ih (a / 10) (by omega) (b / 10) h1.1;have h3 := hc (a % 10) (b % 10) (by omega) (by omega) (by have := h1.2; injection this);omega
def qaw (n : Nat) : ByteArray := (⟨#[103]⟩ : ByteArray) ++ ⟨(Lib.decDigits n).toArray⟩
theorem qi5 (n : Nat) : (qaw n).data.toList = 103 :: Lib.decDigits n := by
 unfold qaw;simp [ByteArray.data_append]
theorem qhy {a b : Nat} (h : qaw a = qaw b) : a = b := by
 have := congrArg (fun x : ByteArray => x.data.toList) h;simp only [qi5] at this;injection this with _ h;exact qi8 a b h
instance decMemN (x : ByteArray) (N : List ByteArray) : Decidable (x ∈ N) := decidable_of_iff (N.any (fun y => decide (x = y)) = true) (by simp)
def qla (N : List ByteArray) : Nat → Nat → Nat
 | 0, n => n
 | k + 1, n => if qaw n ∈ N then qla N k (n + 1) else n
def qay (N : List ByteArray) (n : Nat) : Nat := qla N N.length n
theorem fresh_ex : ∀ (k : Nat) (N : List ByteArray) (n : Nat), N.length ≤ k → ∃ m, n ≤ m ∧ m ≤ n + N.length ∧ qaw m ∉ N ∧ ∀ i, n ≤ i → i < m → qaw i ∈ N := by
 intro k
 induction k with
 | zero =>
  intro N n h;have : N = [] := List.eq_nil_of_length_eq_zero (by omega);subst this;exact ⟨n, Nat.le_refl _, by simp, by simp, fun i h1 h2 => by omega⟩
 | succ k ih =>
  intro N n h;by_cases hm : qaw n ∈ N
  ·have hlt : (N.filter (fun x => decide (x ≠ qaw n))).length < N.length := by
    have hpos := List.length_filter_lt_length_iff_exists (p := fun x => decide (x ≠ qaw n)) (l := N);exact hpos.2 ⟨qaw n, hm, by simp⟩
   obtain ⟨m, h1, h2, h3, h4⟩ := ih (N.filter (fun x => decide (x ≠ qaw n))) (n + 1) (by omega);refine ⟨m, by omega, by omega, fun h => h3 (List.mem_filter.2 ⟨h, ?_⟩), fun i g1 g2 => ?_⟩
   ·simp only [ne_eq, decide_eq_true_eq];intro e;have := qhy e; omega
   ·by_cases hi : i = n
    ·rw [hi]; exact hm
    ·exact (List.mem_filter.1 (h4 i (by omega) g2)).1
  ·exact ⟨n, Nat.le_refl _, by omega, hm, fun i h1 h2 => by omega⟩
theorem qk9 (N : List ByteArray) (m : Nat) (hm : qaw m ∉ N) : ∀ (k n : Nat), n ≤ m → m ≤ n + k → (∀ i, n ≤ i → i < m → qaw i ∈ N) → qla N k n = m
 | 0, n, h1, h2, _ => by rw [qla]; omega
 | k + 1, n, h1, h2, h => by
  rw [qla];by_cases e : n = m
  ·rw [if_neg (by rw [e]; exact hm)]; exact e
  ·rw [if_pos (h n (Nat.le_refl _) (by omega))];exact qk9 N m hm k (n + 1) (by omega) (by omega) fun i g1 g2 => h i (by omega) g2
theorem qbl (N : List ByteArray) (n : Nat) : n ≤ qay N n ∧ qay N n ≤ n + N.length ∧ qaw (qay N n) ∉ N ∧ ∀ i, n ≤ i → i < qay N n → qaw i ∈ N := by
 obtain ⟨m, h1, h2, h3, h4⟩ := fresh_ex N.length N n (Nat.le_refl _);have e : qay N n = m := qk9 N m h3 _ n h1 h2 h4;rw [e]; exact ⟨h1, h2, h3, h4⟩
theorem qgp {N N' : List ByteArray} (h : ∀ x, x ∈ N ↔ x ∈ N') (n : Nat) : qay N n = qay N' n := by
 obtain ⟨h1, h2, h3, h4⟩ := qbl N n;obtain ⟨g1, g2, g3, g4⟩ := qbl N' n;rcases Nat.lt_trichotomy (qay N n) (qay N' n) with k | k | k
 ·exact absurd ((h _).2 (g4 _ h1 k)) h3
 ·exact k
 ·exact absurd ((h _).1 (h4 _ g1 k)) g3
structure Gs where
 next : Nat
 pairs : List Bd
 vars : List Tm
def lookG (t u : Tm) : List Bd → List Tm → Option Tm
 | p :: ps, v :: vs => if p.1 = t ∧ p.2 = u then some v else lookG t u ps vs
 | _, _ => none
def newG (N : List ByteArray) (t u : Tm) (g : Gs) : Tm := .mk 1 (qaw (qay N g.next)) (if t.sort = u.sort then t.sort else 0) []
def addG (N : List ByteArray) (t u : Tm) (g : Gs) : Gs := ⟨qay N g.next + 1, g.pairs ++ [(t, u)], g.vars ++ [newG N t u g]⟩
def qd6 (N : List ByteArray) (t u : Tm) (g : Gs) : Tm × Gs := match lookG t u g.pairs g.vars with
 | some v => (v, g)
 | none => (newG N t u g, addG N t u g)
mutual
def Tm.gen (N : List ByteArray) : Tm → Tm → Gs → Tm × Gs
 | .mk k n s l, u, g => if Tm.mk k n s l = u then (.mk k n s l, g) else if qbc (.mk k n s l) u = true then (.mk k n s (Tm.gens N l u.kids g).1, (Tm.gens N l u.kids g).2) else qd6 N (.mk k n s l) u g
def Tm.gens (N : List ByteArray) : List Tm → List Tm → Gs → List Tm × Gs
 | t :: l, u :: m, g => ((Tm.gen N t u g).1 :: (Tm.gens N l m (Tm.gen N t u g).2).1, (Tm.gens N l m (Tm.gen N t u g).2).2)
 | _, _, g => ([], g)
end
theorem gen_eq (N : List ByteArray) (t u : Tm) (g : Gs) : t.gen N u g = if t = u then (t, g) else if qbc t u = true then (.mk t.kind t.name t.sort (Tm.gens N t.kids u.kids g).1, (Tm.gens N t.kids u.kids g).2) else qd6 N t u g := by
 obtain ⟨k, n, s, l⟩ := t;rw [Tm.gen]; rfl
theorem qh0 (N : List ByteArray) : ∀ (l m : List Tm) (t u : Tm) (g : Gs), l.length = m.length →
  Tm.gens N (l ++ [t]) (m ++ [u]) g = ((Tm.gens N l m g).1 ++ [(t.gen N u (Tm.gens N l m g).2).1], (t.gen N u (Tm.gens N l m g).2).2)
 | [], [], t, u, g, _ => by simp [Tm.gens]
 | a :: l, b :: m, t, u, g, h => by
  rw [List.cons_append, List.cons_append, Tm.gens, qh0 N l m t u _ (by simpa using h), Tm.gens];rfl
structure GsOk (N : List ByteArray) (g : Gs) : Prop where
 len : g.vars.length = g.pairs.length
 next : g.next ≤ (N.length + 1) * g.pairs.length
 var : ∀ v ∈ g.vars, ∃ m s, m < g.next ∧ qaw m ∉ N ∧ v = .mk 1 (qaw m) s []
 apart : g.vars.Pairwise (fun a b => a.name ≠ b.name)
 sorts : ∀ q ∈ g.pairs.zip g.vars, q.2.sort = if q.1.1.sort = q.1.2.sort then q.1.1.sort else 0
theorem leafG_ok {N : List ByteArray} {g : Gs} (h : GsOk N g) (t u : Tm) : GsOk N (qd6 N t u g).2 ∧ g.pairs.length ≤ (qd6 N t u g).2.pairs.length ∧ (qd6 N t u g).2.pairs.length ≤ g.pairs.length + 1 ∧ g.next ≤ (qd6 N t u g).2.next ∧
  (∃ m s, m < (qd6 N t u g).2.next ∧ qaw m ∉ N ∧ (qd6 N t u g).1 = .mk 1 (qaw m) s []) ∧ (qd6 N t u g).1 ∈ (qd6 N t u g).2.vars := by
 have hl : ∀ (ps : List Bd) (vs : List Tm) (v : Tm), lookG t u ps vs = some v → v ∈ vs := by
  intro ps
  induction ps with
  | nil => intro vs v h; simp [lookG] at h
  | cons p ps ih =>
   intro vs v h
   cases vs with
   | nil => simp [lookG] at h
   | cons w vs =>
    rw [lookG] at h
    split at h
    ·rw [← Option.some.inj h]; exact List.mem_cons_self ..
    ·exact List.mem_cons_of_mem _ (ih vs v h)
 unfold qd6
 split
 ·rename_i v hv
  have hm := hl _ _ _ hv;exact ⟨h, Nat.le_refl _, Nat.le_succ _, Nat.le_refl _, h.var v hm, hm⟩
 ·obtain ⟨h1, h2, hf, -⟩ := qbl N g.next;have hn := h.next;refine ⟨⟨by simp [addG, h.len], ?_, fun v hv => ?_, ?_, fun q hq => ?_⟩, by simp [addG], by simp [addG], by simp only [addG]; omega, ⟨_, _, by simp only [addG]; exact Nat.lt_succ_self _, hf, rfl⟩, by simp [addG]⟩
  ·simp only [addG, List.length_append, List.length_singleton];rw [Nat.mul_succ]; omega
  ·rcases List.mem_append.1 hv with hv | hv
   ·obtain ⟨m, s, h4, h5⟩ := h.var v hv;exact ⟨m, s, by simp only [addG]; omega, h5⟩
   ·rw [List.mem_singleton] at hv;exact ⟨_, _, by simp only [addG]; exact Nat.lt_succ_self _, hf, hv⟩
  ·refine List.pairwise_append.2 ⟨h.apart, List.pairwise_singleton .., fun v hv w hw => ?_⟩;rw [List.mem_singleton] at hw;obtain ⟨m, s, h4, -, h5⟩ := h.var v hv;rw [hw, h5];show qaw m ≠ qaw (qay N g.next);intro e;have := qhy e; omega
  ·have hz : (addG N t u g).pairs.zip (addG N t u g).vars = g.pairs.zip g.vars ++ [((t, u), newG N t u g)] := by
    show (g.pairs ++ [(t, u)]).zip (g.vars ++ [newG N t u g]) = _;rw [List.zip_append h.len.symm]; rfl
   rw [hz] at hq;rcases List.mem_append.1 hq with hq | hq
   ·exact h.sorts q hq
   ·rw [List.mem_singleton] at hq;rw [hq]; rfl
mutual
theorem gen_ok {N : List ByteArray} : ∀ (t u : Tm) (g : Gs), GsOk N g → GsOk N (t.gen N u g).2 ∧ g.pairs.length ≤ (t.gen N u g).2.pairs.length ∧ (t.gen N u g).2.pairs.length ≤ g.pairs.length + t.size ∧ g.next ≤ (t.gen N u g).2.next
 | .mk k n s l, u, g, h => by
  rw [Tm.gen]
  split
  ·exact ⟨h, Nat.le_refl _, Nat.le_add_right _ _, Nat.le_refl _⟩
  ·split
   ·obtain ⟨h1, h2, h3, h4⟩ := ql8 l u.kids g h;refine ⟨h1, h2, ?_, h4⟩;rw [Tm.size]; dsimp only; omega
   ·obtain ⟨h1, h2, h3, h4, -, -⟩ := leafG_ok h (.mk k n s l) u;refine ⟨h1, h2, ?_, h4⟩;rw [Tm.size]; omega
theorem ql8 {N : List ByteArray} : ∀ (l m : List Tm) (g : Gs), GsOk N g → GsOk N (Tm.gens N l m g).2 ∧ g.pairs.length ≤ (Tm.gens N l m g).2.pairs.length ∧ (Tm.gens N l m g).2.pairs.length ≤ g.pairs.length + Tm.sizes l ∧ g.next ≤ (Tm.gens N l m g).2.next
 | [], m, g, h => by cases m <;> (rw [Tm.gens]; exact ⟨h, Nat.le_refl _, Nat.le_add_right _ _, Nat.le_refl _⟩; try simp)
 | t :: l, [], g, h => by rw [Tm.gens]; exact ⟨h, Nat.le_refl _, Nat.le_add_right _ _, Nat.le_refl _⟩; simp
 | t :: l, u :: m, g, h => by
  rw [Tm.gens, Tm.sizes];obtain ⟨h1, h2, h3, h4⟩ := gen_ok t u g h;obtain ⟨g1, g2, g3, g4⟩ := ql8 l m _ h1;exact ⟨g1, by dsimp only; omega, by dsimp only; omega, by dsimp only; omega⟩
end
def gs0 : Gs := ⟨0, [], []⟩
theorem gs0_ok (N : List ByteArray) : GsOk N gs0 := ⟨rfl, by simp [gs0], by simp [gs0], by simp [gs0], by simp [gs0]⟩
end Go.Proofs.YtpjmdilpldaapaaGreatDoor
