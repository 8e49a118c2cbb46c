/- slices.SortFunc over bindings by their variables: the library's contract at this program. -/
import Derived.Test.YtipmibjhlpnhjaaGreatDoorSrow
import Derived.Test.YtipmibjhlpnhjaaGreatDoorSrt
import Derived.Shelf.SlSortCmp.NoneTotal
namespace Go.Proofs.YtipmibjhlpnhjaaGreatDoor
open Go.RowKit Go.Sort

set_option maxHeartbeats 2000000 in
set_option maxRecDepth 100000 in
theorem byVar_any (a b : Bd) (A A' B B' : Option Addr) (c c' d d' : Nat) (w : World) (ha : a.1.size ≤ 1000000) (hb : b.1.size ≤ 1000000) (hra : RepT w w.heap.size a.1 A c) (hrb : RepT w w.heap.size b.1 B d) :
    Calls Tryz.prog 110 #[bval a A c A' c', bval b B d B' d'] w fun e w' => e = .returned (.int .i64 (a.1.cmp b.1)) ∧ Lay w.heap.size w w' := by
  obtain ⟨V, hV⟩ : ∃ V, V = (w.alloc (.cells (bcells a A c A' c') 53)).alloc (.cells (bcells b B d B' d') 53) := ⟨_, rfl⟩
  have hl : Lay w.heap.size w V := by rw [hV]; exact ((Lay.refl _ _).alloc (Nat.le_refl _) _).alloc (by simp) _
  have CM : Hid (∀ Z, Lay w.heap.size w Z → Calls Tryz.prog 100 #[a.1.val A c, b.1.val B d] Z fun e w' => e = .returned (.int .i64 (a.1.cmp b.1)) ∧ Lay Z.heap.size Z w') := Lib.hid fun Z h => compare_any 1000000 a.1 b.1 A B c d Z ha (by omega) hb (hra.go h.below h.size) (hrb.go h.below h.size)
  have HL := Lib.hid hl; clear hl
  simp only [bcells] at hV
  have HV := Lib.hid hV; clear hV
  have CON := Lib.hid (CM.out V HL.out); clear CM
  simp only [Tm.val] at CON
  simp only [bval, bcells]
  go_enter Tryz.func110, Tryz.ntmps110
  go_wp2_with fail
  rw [← HV.out]
  refine CON.out.mono ?_
  rintro e w1 ⟨rfl, hl1⟩
  have HL1 := Lib.hid (HL.out.trans (hl1.mono HL.out.size)); clear hl1
  go_wp2_with fail
  go_ret
  exact ⟨rfl, HL1.out⟩

def GoodIB (w : World) (g : Nat) (x : IB) : Prop := RepP w (fun b => b < w.heap.size ∧ b ≠ g) x.1.1 x.1.2.1 x.1.2.2 ∧ x.1.1.size ≤ 1000000
abbrev GIB (w : World) (g : Nat) := { x : IB // GoodIB w g x }
def encIB (w : World) (g : Nat) (x : GIB w g) : List Value := bCells [x.1]
def cmpIB (w : World) (g : Nat) (x y : GIB w g) : Int := x.1.1.1.cmp y.1.1.1

theorem swo_cmpIB {w : World} {g : Nat} : SWO (ltOf (cmpIB w g)) where
  irrefl x := by simp [ltOf, cmpIB, Tm.cmp_self]
  trans x y z h1 h2 := by
    unfold ltOf cmpIB at *
    rw [decide_eq_true_eq] at *
    exact (Tm.cmp_tri x.1.1.1 y.1.1.1 z.1.1.1).2.1 h1 (Int.le_of_lt h2)
  ntrans x y z h1 h2 := by
    unfold ltOf cmpIB at *
    rw [decide_eq_false_iff_not] at *
    have n1 := Tm.cmp_neg x.1.1.1 y.1.1.1
    have n2 := Tm.cmp_neg y.1.1.1 z.1.1.1
    have n3 := Tm.cmp_neg x.1.1.1 z.1.1.1
    have := (Tm.cmp_tri z.1.1.1 y.1.1.1 x.1.1.1).1 (by omega) (by omega)
    omega

theorem bCells_get (l : List IB) (q r : Nat) (hq : q < l.length) (hr : r < 8) : (bCells l)[q * 8 + r]? = (bCells [l[q]])[r]? := by
  have e : l = l.take q ++ ([l[q]] ++ l.drop (q + 1)) := by simp
  have e2 : bCells l = bCells (l.take q) ++ (bCells [l[q]] ++ bCells (l.drop (q + 1))) := by
    conv => lhs; rw [e]
    rw [bCells_append, bCells_append]
  have h1 : (bCells (l.take q)).length = q * 8 := by rw [bCells_length, List.length_take, Nat.min_eq_left (by omega)]
  rw [e2, List.getElem?_append_right (by omega), h1, List.getElem?_append_left (by rw [bCells_length]; simp; omega)]
  congr 1; omega

theorem flat_ibs {w : World} {g : Nat} [Inhabited (GIB w g)] (d : Array (GIB w g)) : (flatK (encIB w g) 8 d).toList = bCells (d.toList.map (·.1)) := by
  apply List.ext_getElem?
  intro t
  by_cases ht : t < d.size * 8
  · obtain ⟨q, r, hm, rfl⟩ : ∃ q r, r < 8 ∧ t = q * 8 + r := ⟨t / 8, t % 8, Nat.mod_lt _ (by omega), by omega⟩
    have hq : (q * 8 + r) / 8 = q := by omega
    have hr : (q * 8 + r) % 8 = r := by omega
    have h4 : q < d.size := by omega
    have hl : q < (d.toList.map (·.1)).length := by simpa using h4
    have hx : (d.toList.map (·.1))[q] = (d[q]!).1 := by simp [h4]
    rw [bCells_get _ q r hl hm, hx]
    have hs : q * 8 + r < (flatK (encIB w g) 8 d).size := by simpa using ht
    have h := get_flatK (encIB w g) 8 d (q * 8 + r) ht
    rw [hq, hr] at h
    have hel : r < (encIB w g d[q]!).length := by unfold encIB; rw [bCells_length]; simp; omega
    rw [Array.getElem?_toList, Array.getElem?_eq_getElem hs, ← getElem!_pos (flatK (encIB w g) 8 d) (q * 8 + r) hs, h]
    rw [getElem!_pos (encIB w g d[q]!) r hel]
    exact (List.getElem?_eq_getElem hel).symm
  · rw [List.getElem?_eq_none (by simpa using ht), List.getElem?_eq_none (by rw [bCells_length]; simpa using ht)]

def SortedIB (w : World) (base g n cap : Nat) (F : Nat → Prop) (its : List IB) (e : Ending) (w' : World) : Prop :=
  e = .returned (.tuple #[]) ∧ ∃ its', its'.Perm its ∧ (∀ i j, (hi : i < j) → (hj : j < its'.length) → (its'[i].1.1.cmp its'[j].1.1) ≤ 0) ∧
    RowB w' base F (.slice (some ⟨g, 0, none⟩) n cap) its' ∧ w.grownBy w' (some g)

theorem bsort_any (w : World) (base g cap n : Nat) (F : Nat → Prop) (its : List IB) (hn : n = its.length) (hpos : 0 < n) (hn2 : n ≤ 10000000) (hrow : RowB w base F (.slice (some ⟨g, 0, none⟩) n cap) its) (hsz : ∀ x ∈ its, x.1.1.size ≤ 1000000) :
    Calls Tryz.prog 109 #[.slice (some ⟨g, 0, none⟩) n cap, .func (.func 110) #[] #[]] w (SortedIB w base g n cap F its) := by
  subst hn
  have hgood : ∀ x ∈ its, GoodIB w g x := fun x hx => ⟨RepP.mono (fun b ⟨_, h2, h3⟩ => ⟨h2, fun e => h3 (by rw [e]; rfl)⟩) (fun _ _ => rfl) _ _ _ (hrow.reps x hx).1, hsz x hx⟩
  obtain ⟨x0, hx0⟩ : ∃ x, x ∈ its := ⟨its[0], List.getElem_mem hpos⟩
  letI : Inhabited (GIB w g) := ⟨⟨x0, hgood x0 hx0⟩⟩
  obtain ⟨d, hd⟩ : ∃ d : Array (GIB w g), d.toList.map (·.1) = its := ⟨(its.attach.map fun x => ⟨x.1, hgood x.1 x.2⟩).toArray, by simp only [List.map_map, Function.comp_def]; exact List.attach_map_subtype_val its⟩
  have hds : d.size = its.length := by rw [← hd]; simp
  rcases hrow.own.2 with ⟨hv, _⟩ | ⟨g', cap', cur, hv, hbase, hb, hnc, hcm, hcs, ht⟩
  · cases hv
  injection hv with h1 h2 h3
  injection h1 with h1
  injection h1 with h1
  subst h1 h3
  have hgl : g < w.heap.size := (Array.getElem?_eq_some_iff.1 hb).1
  have hflat : (flatK (encIB w g) 8 d).toList = bCells its := by rw [flat_ibs, hd]
  have hfs : (flatK (encIB w g) 8 d).size = its.length * 8 := by simp [hds]
  have hH : HoldsK (encIB w g) 8 w g 0 d := by
    intro j hj
    rw [size_flatK] at hj
    refine ⟨?_, by simp [World.frozen?, hb]⟩
    have h1 : (cur.toList.take (its.length * 8))[j]? = (bCells its)[j]? := by rw [ht]
    rw [List.getElem?_take_of_lt (by omega), Array.getElem?_toList] at h1
    simp only [World.cell?, hb, Nat.zero_add, Option.isSome_none, Bool.false_eq_true, if_false]
    rw [h1, ← hflat, Array.getElem?_toList, Array.getElem?_eq_getElem (by simpa using hj), getElem!_pos _ j (by simpa using hj)]
    rfl
  have hcmp : CmpLays Tryz.prog 110 #[] (encIB w g) 8 (cmpIB w g) g 0 d.size w := by
    intro m os dk hdk x y
    have hW : ∀ p : Addr, p.block < w.heap.size → p.block ≠ g → (sortWorldK (encIB w g) 8 w g 0 m dk os).cell? p = w.cell? p := fun p hp hne => by
      unfold sortWorldK
      rw [cell?_grow _ _ _ (by rw [size_putRowK]; exact hp), cell?_putRowK_other _ _ _ _ _ _ _ hne]; rfl
    have hS := size_sortWorldK_c (encIB w g) 8 w g 0 m dk os
    have hr : ∀ z : GIB w g, RepT (sortWorldK (encIB w g) 8 w g 0 m dk os) (sortWorldK (encIB w g) 8 w g 0 m dk os).heap.size z.1.1.1 z.1.1.2.1 z.1.1.2.2 := fun z =>
      RepP.mono (fun b ⟨h1, _⟩ => by omega) (fun p ⟨h1, h2⟩ => hW p h1 h2) _ _ _ z.2.1
    refine (byVar_any x.1.bd y.1.bd x.1.1.2.1 x.1.2.2.1 y.1.1.2.1 y.1.2.2.1 x.1.1.2.2 x.1.2.2.2 y.1.1.2.2 y.1.2.2.2 _ x.2.2 y.2.2 (hr x) (hr y)).mono ?_
    rintro e w' ⟨he, hl⟩
    exact ⟨he, hl.grow⟩
  have eg : ∀ args w, (callFunc 110 args).run Tryz.prog w = .ok (.enter 110 args) w := enters_of Tryz.func110 (by kernel_rfl) rfl
  have hcon := AnyQ.slices_SortFunc Tryz.sortBind 8 Tryz.isAgg53 Tryz.sizeOf53 (encIB w g) (fun x => by unfold encIB; rw [bCells_length]; rfl) (fun x v hv => bCells_one [x.1] v hv) (cmpIB w g) swo_cmpIB 110 #[] g 0 cap d w eg hcmp hH hgl (by omega)
  rw [hds] at hcon
  refine Calls.mono hcon ?_
  rintro e w' ⟨he, d', m, os, hperm, hsort, rfl⟩
  have hs' : d'.size = its.length := hperm.1.trans hds
  have hlen' : (d'.toList.map (·.1)).length = its.length := by simpa using hs'
  refine ⟨he, d'.toList.map (·.1), ?_, ?_, ⟨?_, ?_⟩, grownBy_sorted _⟩
  · have h := hperm.2.2
    rw [← hds, show d'.extract 0 d.size = d' by rw [hds, ← hs']; simp, show d.extract 0 d.size = d by simp] at h
    rw [← hd]; exact h.map _
  · intro i j hij hj
    have hj' : j < its.length := by rw [hlen'] at hj; exact hj
    have h := hsort i j (Nat.zero_le _) hij hj'
    unfold ltOf cmpIB at h
    rw [decide_eq_false_iff_not] at h
    rw [getElem!_pos d' j (by omega), getElem!_pos d' i (by omega)] at h
    have hneg := Tm.cmp_neg d'[i].1.1.1 d'[j].1.1.1
    simp only [List.getElem_map, Array.getElem_toList]
    omega
  · have hf' : (flatK (encIB w g) 8 d').toList = bCells (d'.toList.map (·.1)) := flat_ibs d'
    have hfs' : (flatK (encIB w g) 8 d').size = its.length * 8 := by simp [hs']
    refine ⟨by rw [bCells_length], .inr ⟨g, cap, _, by rw [hlen'], hbase, heap_sorted _ hb, by rw [hlen']; exact hnc, hcm, by simp [putCells, hcs], ?_⟩⟩
    rw [hlen', ← hfs', take_putCells _ _ (by rw [hfs', hcs]; exact Nat.mul_le_mul_right _ hnc), hf']
  · intro x hx
    have hmem : x ∈ its := by
      have h := hperm.2.2
      rw [← hds, show d'.extract 0 d.size = d' by rw [hds, ← hs']; simp, show d.extract 0 d.size = d by simp] at h
      rw [← hd]; exact (h.map _).mem_iff.1 hx
    have hg := grownBy_sorted (w := w) (g := g) (n := m) (os := os) (flatK (encIB w g) 8 d')
    have key : ∀ (t : Tm) A c, RepP w (fun b => F b ∧ b < w.heap.size ∧ (Value.slice (some ⟨g, 0, none⟩) its.length cap).ownBlock ≠ some b) t A c → RepP (grow (putRow id (Sort.ahead w m) g 0 (flatK (encIB w g) 8 d')) os) (fun b => F b ∧ b < (grow (putRow id (Sort.ahead w m) g 0 (flatK (encIB w g) 8 d')) os).heap.size ∧ (Value.slice (some ⟨g, 0, none⟩) its.length cap).ownBlock ≠ some b) t A c := fun t A c hr => by
      refine RepP.mono ?_ ?_ _ _ _ hr
      · rintro b ⟨h1, h2, h3⟩; exact ⟨h1, Nat.lt_of_lt_of_le h2 hg.size, h3⟩
      · rintro p ⟨h1, h2, h3⟩
        exact World.cell?_of_block (hg.block p.block h2 (fun e => h3 (by rw [show g = p.block from by injection e with e; exact e.symm]; rfl)))
    exact ⟨key _ _ _ (hrow.reps x hmem).1, key _ _ _ (hrow.reps x hmem).2⟩
end Go.Proofs.YtipmibjhlpnhjaaGreatDoor
