/- slices.SortFunc over terms by Compare: the library's contract at this program. -/
import Derived.Test.YtbgkabgbgbebaaaDoorRow
import Derived.Test.YtbgkabgbgbebaaaDoorCompare
import Derived.Test.YtbgkabgbgbebaaaDoorSrt
import Derived.Shelf.SlSortCmp.NoneTotal
namespace Go.Proofs.YtbgkabgbgbebaaaDoor
open Go.RowKit Go.Sort

def GoodIt (w : World) (g : Nat) (x : It) : Prop := RepP w (fun b => b < w.heap.size ∧ b ≠ g) x.1 x.2.1 x.2.2 ∧ x.1.size ≤ 1000000
abbrev GIt (w : World) (g : Nat) := { x : It // GoodIt w g x }
def encIt (w : World) (g : Nat) (x : GIt w g) : List Value := x.1.1.cells x.1.2.1 x.1.2.2
def cmpIt (w : World) (g : Nat) (x y : GIt w g) : Int := x.1.1.cmp y.1.1

theorem swo_cmpIt {w : World} {g : Nat} : SWO (ltOf (cmpIt w g)) where
  irrefl x := by simp [ltOf, cmpIt, Tm.cmp_self]
  trans x y z h1 h2 := by
    unfold ltOf cmpIt at *
    rw [decide_eq_true_eq] at *
    exact (Tm.cmp_tri x.1.1 y.1.1 z.1.1).2.1 h1 (Int.le_of_lt h2)
  ntrans x y z h1 h2 := by
    unfold ltOf cmpIt at *
    rw [decide_eq_false_iff_not] at *
    have n1 := Tm.cmp_neg x.1.1 y.1.1
    have n2 := Tm.cmp_neg y.1.1 z.1.1
    have n3 := Tm.cmp_neg x.1.1 z.1.1
    have := (Tm.cmp_tri z.1.1 y.1.1 x.1.1).1 (by omega) (by omega)
    omega

theorem flat_its {w : World} {g : Nat} [Inhabited (GIt w g)] (d : Array (GIt w g)) : (flatK (encIt w g) 4 d).toList = itCells (d.toList.map (·.1)) := by
  apply List.ext_getElem?
  intro t
  by_cases ht : t < d.size * 4
  · obtain ⟨q, r, hm, rfl⟩ : ∃ q r, r < 4 ∧ t = q * 4 + r := ⟨t / 4, t % 4, Nat.mod_lt _ (by omega), by omega⟩
    have hq : (q * 4 + r) / 4 = q := by omega
    have hr : (q * 4 + r) % 4 = r := by omega
    have h4 : q < d.size := by omega
    have hl : q < (d.toList.map (·.1)).length := by simpa using h4
    obtain ⟨g0, g1, g2, g3⟩ := itCells_get (d.toList.map (·.1)) q hl
    have hx : (d.toList.map (·.1))[q] = (d[q]!).1 := by simp [h4]
    rw [hx] at g0 g1 g2 g3
    have hf : (flatK (encIt w g) 4 d).toList[q * 4 + r]? = some ((encIt w g d[q]!)[r]!) := by
      have hs : q * 4 + r < (flatK (encIt w g) 4 d).size := by simpa using ht
      have h := get_flatK (encIt w g) 4 d (q * 4 + r) ht
      rw [hq, hr] at h
      rw [Array.getElem?_toList, Array.getElem?_eq_getElem hs, ← h, getElem!_pos (flatK (encIt w g) 4 d) (q * 4 + r) hs]
    rw [hf]
    match r, hm with
    | 0, _ => rw [Nat.add_zero, g0]; rfl
    | 1, _ => rw [g1]; rfl
    | 2, _ => rw [g2]; rfl
    | 3, _ => rw [g3]; rfl
  · rw [List.getElem?_eq_none (by simpa using ht), List.getElem?_eq_none (by rw [itCells_length]; simpa using ht)]

theorem heap_sorted {w : World} {g n : Nat} {os : Array Obj} {cur : Array Value} {e : TypeId} {fr : Nat × Nat} (d : Array Value) (hb : w.heap[g]? = some (.cells cur e fr)) :
    (grow (putRow id (Sort.ahead w n) g 0 d) os).heap[g]? = some (.cells (putCells id 0 d cur) e fr) := by
  have hg : g < w.heap.size := (Array.getElem?_eq_some_iff.1 hb).1
  rw [heap_grow_old _ _ (by simpa using hg)]
  simp [putRow, mapBlock, Sort.ahead, Array.getElem?_modify, hb, onCells]
theorem grownBy_sorted {w : World} {g n : Nat} {os : Array Obj} (d : Array Value) : w.grownBy (grow (putRow id (Sort.ahead w n) g 0 d) os) (some g) := by
  refine ⟨rfl, rfl, rfl, by simp, fun k hk hne => ?_⟩
  rw [heap_grow_old _ _ (by simpa using hk)]
  have : g ≠ k := fun e => hne (by rw [e])
  simp [putRow, mapBlock, Sort.ahead, Array.getElem?_modify, this]
theorem take_putCells (cur d : Array Value) (h : d.size ≤ cur.size) : (putCells id 0 d cur).toList.take d.size = d.toList := by
  apply List.ext_getElem?
  intro j
  by_cases hj : j < d.size
  · rw [List.getElem?_take_of_lt hj, Array.getElem?_toList, Array.getElem?_toList]
    simp only [putCells, Array.getElem?_mapIdx]
    rw [Array.getElem?_eq_getElem (show j < cur.size by omega), Array.getElem?_eq_getElem hj]
    simp only [Option.map_some, Nat.zero_le, true_and, Nat.zero_add, hj, if_true, Nat.sub_zero, id_eq]
    rw [getElem!_pos d j hj]
  · rw [List.getElem?_eq_none (by simp; omega), List.getElem?_eq_none (by simpa using hj)]

def Sorted (w : World) (base g n cap : Nat) (F : Nat → Prop) (its : List It) (e : Ending) (w' : World) : Prop :=
  e = .returned (.tuple #[]) ∧ ∃ its', its'.Perm its ∧ (∀ i j, (hi : i < j) → (hj : j < its'.length) → (its'[i].1.cmp its'[j].1) ≤ 0) ∧
    RowT w' base F (.slice (some ⟨g, 0, none⟩) n cap) its' ∧ w.grownBy w' (some g)

theorem sort_any (w : World) (base g cap n : Nat) (F : Nat → Prop) (its : List It) (hn : n = its.length) (hpos : 0 < n) (hn2 : n ≤ 10000000) (hrow : RowT w base F (.slice (some ⟨g, 0, none⟩) n cap) its) (hsz : ∀ x ∈ its, x.1.size ≤ 1000000) :
    Calls Tryd.prog 67 #[.slice (some ⟨g, 0, none⟩) n cap, .func (.func 18) #[] #[]] w (Sorted w base g n cap F its) := by
  subst hn
  have hgood : ∀ x ∈ its, GoodIt w g x := fun x hx => ⟨RepP.mono (fun b ⟨_, h2, h3⟩ => ⟨h2, fun e => h3 (by rw [e]; rfl)⟩) (fun _ _ => rfl) _ _ _ (hrow.reps x hx), hsz x hx⟩
  obtain ⟨x0, hx0⟩ : ∃ x, x ∈ its := ⟨its[0], List.getElem_mem hpos⟩
  letI : Inhabited (GIt w g) := ⟨⟨x0, hgood x0 hx0⟩⟩
  obtain ⟨d, hd⟩ : ∃ d : Array (GIt w g), d.toList.map (·.1) = its := ⟨(its.attach.map fun x => ⟨x.1, hgood x.1 x.2⟩).toArray, by simp only [List.map_map, Function.comp_def]; exact List.attach_map_subtype_val its⟩
  have hds : d.size = its.length := by rw [← hd]; simp
  rcases hrow.own.2 with ⟨hv, _⟩ | ⟨g', cap', cur, hv, hbase, hb, hnc, hcm, hcs, ht⟩
  · cases hv
  injection hv with h1 h2 h3
  injection h1 with h1
  injection h1 with h1
  subst h1 h3
  have hgl : g < w.heap.size := (Array.getElem?_eq_some_iff.1 hb).1
  have hflat : (flatK (encIt w g) 4 d).toList = itCells its := by rw [flat_its, hd]
  have hfs : (flatK (encIt w g) 4 d).size = its.length * 4 := by simp [hds]
  have hH : HoldsK (encIt w g) 4 w g 0 d := by
    intro j hj
    rw [size_flatK] at hj
    refine ⟨?_, by simp [World.frozen?, hb]⟩
    have h1 : (cur.toList.take (its.length * 4))[j]? = (itCells its)[j]? := by rw [ht]
    rw [List.getElem?_take_of_lt (by omega), Array.getElem?_toList] at h1
    simp only [World.cell?, hb, Nat.zero_add, Option.isSome_none, Bool.false_eq_true, if_false]
    rw [h1, ← hflat, Array.getElem?_toList, Array.getElem?_eq_getElem (by simpa using hj), getElem!_pos _ j (by simpa using hj)]
    rfl
  have hcmp : CmpLays Tryd.prog 18 #[] (encIt w g) 4 (cmpIt w g) g 0 d.size w := by
    intro m os dk hdk x y
    have hW : ∀ p : Addr, p.block < w.heap.size → p.block ≠ g → (sortWorldK (encIt w g) 4 w g 0 m dk os).cell? p = w.cell? p := fun p hp hne => by
      unfold sortWorldK
      rw [cell?_grow _ _ _ (by rw [size_putRowK]; exact hp), cell?_putRowK_other _ _ _ _ _ _ _ hne]; rfl
    have hS := size_sortWorldK_c (encIt w g) 4 w g 0 m dk os
    have hr : ∀ z : GIt w g, RepT (sortWorldK (encIt w g) 4 w g 0 m dk os) (sortWorldK (encIt w g) 4 w g 0 m dk os).heap.size z.1.1 z.1.2.1 z.1.2.2 := fun z =>
      RepP.mono (fun b ⟨h1, _⟩ => by omega) (fun p ⟨h1, h2⟩ => hW p h1 h2) _ _ _ z.2.1
    refine (compare_any 1000000 x.1.1 y.1.1 x.1.2.1 y.1.2.1 x.1.2.2 y.1.2.2 _ x.2.2 (by omega) y.2.2 (hr x) (hr y)).mono ?_
    rintro e w' ⟨he, hl⟩
    exact ⟨he, hl.grow⟩
  have eg : ∀ args w, (callFunc 18 args).run Tryd.prog w = .ok (.enter 18 args) w := enters_of Tryd.func18 (by kernel_rfl) rfl
  have hcon := AnyQ.slices_SortFunc Tryd.sortTerm 4 Tryd.isAgg24 Tryd.sizeOf24 (encIt w g) (fun _ => rfl) (fun x v hv => itCells_one [x.1] v (by simpa [itCells, encIt] using hv)) (cmpIt w g) swo_cmpIt 18 #[] g 0 cap d w eg hcmp hH hgl (by omega)
  rw [hds] at hcon
  refine Calls.mono hcon ?_
  rintro e w' ⟨he, d', m, os, hperm, hsort, rfl⟩
  have hs' : d'.size = its.length := hperm.1.trans hds
  have hlen' : (d'.toList.map (·.1)).length = its.length := by simpa using hs'
  refine ⟨he, d'.toList.map (·.1), ?_, ?_, ⟨?_, ?_⟩, grownBy_sorted _⟩
  · have h := hperm.2.2
    rw [← hds, show d'.extract 0 d.size = d' by rw [hds, ← hs']; simp, show d.extract 0 d.size = d by simp] at h
    rw [← hd]; exact h.map _
  · intro i j hij hj
    have hj' : j < its.length := by rw [hlen'] at hj; exact hj
    have h := hsort i j (Nat.zero_le _) hij hj'
    unfold ltOf cmpIt at h
    rw [decide_eq_false_iff_not] at h
    rw [getElem!_pos d' j (by omega), getElem!_pos d' i (by omega)] at h
    have hneg := Tm.cmp_neg d'[i].1.1 d'[j].1.1
    simp only [List.getElem_map, Array.getElem_toList]
    omega
  · have hf' : (flatK (encIt w g) 4 d').toList = itCells (d'.toList.map (·.1)) := flat_its d'
    have hfs' : (flatK (encIt w g) 4 d').size = its.length * 4 := by simp [hs']
    refine ⟨by rw [itCells_length], .inr ⟨g, cap, _, by rw [hlen'], hbase, heap_sorted _ hb, by rw [hlen']; exact hnc, hcm, by simp [putCells, hcs], ?_⟩⟩
    rw [hlen', ← hfs', take_putCells _ _ (by rw [hfs', hcs]; exact Nat.mul_le_mul_right _ hnc), hf']
  · intro x hx
    have hmem : x ∈ its := by
      have h := hperm.2.2
      rw [← hds, show d'.extract 0 d.size = d' by rw [hds, ← hs']; simp, show d.extract 0 d.size = d by simp] at h
      rw [← hd]; exact (h.map _).mem_iff.1 hx
    have hg := grownBy_sorted (w := w) (g := g) (n := m) (os := os) (flatK (encIt w g) 4 d')
    refine RepP.mono ?_ ?_ _ _ _ (hrow.reps x hmem)
    · rintro b ⟨h1, h2, h3⟩; exact ⟨h1, Nat.lt_of_lt_of_le h2 hg.size, h3⟩
    · rintro p ⟨h1, h2, h3⟩
      exact World.cell?_of_block (hg.block p.block h2 (fun e => h3 (by rw [show g = p.block from by injection e with e; exact e.symm]; rfl)))
end Go.Proofs.YtbgkabgbgbebaaaDoor
