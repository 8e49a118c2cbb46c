/- term.ordered: sorted, each once, copied. -/
import Derived.Test.YtbgkabgbgbebaaaDoorSet
import Derived.Test.YtbgkabgbgbebaaaDoorSort
import Derived.Test.YtbgkabgbgbebaaaDoorCompact
import Derived.Test.YtbgkabgbgbebaaaDoorClone
namespace Go.Proofs.YtbgkabgbgbebaaaDoor
open Go.RowKit Go.Sort

theorem compTail_asc : ∀ (r : List It) (p : Tm), (p :: r.map (·.1)).Pairwise (fun a b => a.cmp b ≤ 0) → Asc (p :: (compTail p r).map (·.1))
  | [], p, _ => by simp [compTail, Asc]
  | y :: r, p, h => by
    have h' := List.pairwise_cons.1 h
    rw [compTail]
    split
    · rename_i hs
      have := Tm.same_iff.1 hs
      subst this
      exact compTail_asc r _ (by simpa using h'.2)
    · rename_i hs
      have hne : y.1 ≠ p := fun e => hs (Tm.same_iff.2 e)
      have ih := compTail_asc r y.1 (by simpa using h'.2)
      have ih' := List.pairwise_cons.1 ih
      have hlt : p.cmp y.1 < 0 := by
        have h1 := h'.1 y.1 (by simp)
        rcases Int.lt_or_eq_of_le h1 with h2 | h2
        · exact h2
        · exact absurd (Tm.cmp_zero.1 h2).symm hne
      rw [List.map_cons]
      refine List.pairwise_cons.2 ⟨fun u hu => ?_, ih⟩
      rw [List.mem_cons] at hu
      rcases hu with rfl | hu
      · exact hlt
      · exact Tm.lt_trans hlt (ih'.1 u hu)
theorem mem_compTail : ∀ (r : List It) (p u : Tm), u ∈ p :: (compTail p r).map (·.1) ↔ u ∈ p :: r.map (·.1)
  | [], p, u => by simp [compTail]
  | y :: r, p, u => by
    rw [compTail]
    split
    · rename_i hs
      have := Tm.same_iff.1 hs
      subst this
      rw [mem_compTail r y.1 u]; simp
    · have := mem_compTail r y.1 u
      simp only [List.map_cons, List.mem_cons] at this ⊢
      rw [this]
theorem comp_asc (l : List It) (h : ∀ i j, (hi : i < j) → (hj : j < l.length) → (l[i].1.cmp l[j].1) ≤ 0) : Asc ((comp l).map (·.1)) := by
  match l, h with
  | [], _ => exact List.Pairwise.nil
  | x :: r, h =>
    refine compTail_asc r x.1 ?_
    have : ((x :: r).map (·.1)).Pairwise (fun a b => a.cmp b ≤ 0) := by
      rw [List.pairwise_map, List.pairwise_iff_getElem]
      exact fun i j _ hj hij => h i j hij hj
    exact this
theorem mem_comp (l : List It) (u : Tm) : u ∈ (comp l).map (·.1) ↔ u ∈ l.map (·.1) := by
  match l with
  | [] => rfl
  | x :: r => exact mem_compTail r x.1 u
theorem comp_sub : ∀ (r : List It) (p : Tm), (compTail p r).Sublist r
  | [], _ => by simp [compTail]
  | y :: r, p => by
    rw [compTail]
    split
    · exact (comp_sub r y.1).trans (List.sublist_cons_self _ _)
    · exact (comp_sub r y.1).cons_cons _
theorem comp_sublist (l : List It) : (comp l).Sublist l := by
  match l with
  | [] => exact List.Sublist.refl _
  | x :: r => exact (comp_sub r x.1).cons_cons _

theorem RepP.set4 {w : World} {P : Nat → Prop} {g a b c d : Nat} {x y z u : Value} (hP : ∀ k, P k → g ≠ k) {t : Tm} {A : Option Addr} {cap : Nat} (h : RepP w P t A cap) :
    RepP ((((w.setCell ⟨g, a, none⟩ x).setCell ⟨g, b, none⟩ y).setCell ⟨g, c, none⟩ z).setCell ⟨g, d, none⟩ u) P t A cap := by
  refine RepP.mono (fun _ h => h) (fun p hp => ?_) _ _ _ h
  have hne : ∀ o, (⟨g, o, none⟩ : Addr) ≠ p := fun o e => hP _ hp (by rw [← e])
  rw [World.cell?_setCell_other _ _ _ _ (hne _), World.cell?_setCell_other _ _ _ _ (hne _), World.cell?_setCell_other _ _ _ _ (hne _), World.cell?_setCell_other _ _ _ _ (hne _)]

theorem compact_nil (w : World) (f : Value) :
    Calls Tryd.prog 68 #[.slice none 0 0, f] w fun e w' => e = .returned (.slice none 0 0) ∧ w' = w := by
  go_enter Tryd.func68, Tryd.ntmps68
  go_wp2_with fail
  go_ret
  exact ⟨rfl, rfl⟩

theorem grown_of_below {w w' : World} (h : Below w.heap.size w w') (row : Option Nat) : w.grownBy w' row := ⟨h.os, h.tape, h.output, h.size, fun b hb _ => h.block b hb⟩

def Ordered (w : World) (base : Nat) (v : Value) (ts : List Tm) (e : Ending) (w' : World) : Prop :=
  ∃ v' its', e = .returned v' ∧ RowT w' base (fun b => w.heap.size ≤ b) v' its' ∧ w.grownBy w' v.ownBlock ∧ v'.ownBlock = v.ownBlock ∧ its'.map (·.1) = Tm.set ts

theorem ordered_nil (w : World) (base : Nat) :
    Calls Tryd.prog 55 #[.slice none 0 0] w (Ordered w base (.slice none 0 0) []) := by
  have hS := (AnyF.slices_SortFunc_none (P := Tryd.prog) Tryd.sortTerm none 0 (.func (.func 18) #[] #[]) w)
  have HS := Lib.hid hS; clear hS
  go_enter Tryd.func55, Tryd.ntmps55
  go_wp2_with fail
  refine HS.out.mono ?_
  rintro e w' ⟨rfl, rfl⟩
  go_wp2_with fail
  refine (compact_nil _ _).mono ?_
  rintro e w' ⟨rfl, rfl⟩
  go_wp2_with fail
  refine wp_loop_rounds 1 ?_
  rw [rounds_succ]
  go_wp2_with fail
  go_ret
  exact ⟨_, [], rfl, RowT.nil _ _ _, grown_lay (Lay.refl _ _) _, rfl, rfl⟩

set_option maxHeartbeats 4000000 in
set_option maxRecDepth 100000 in
theorem ordered_any (w : World) (base g cap n : Nat) (F : Nat → Prop) (its : List It) (hn : n = its.length) (hpos : 0 < n) (hn2 : n ≤ 10000000) (hrow : RowT w base F (.slice (some ⟨g, 0, none⟩) n cap) its) (hsz : ∀ x ∈ its, x.1.size ≤ 1000000) :
    Calls Tryd.prog 55 #[.slice (some ⟨g, 0, none⟩) n cap] w (Ordered w base (.slice (some ⟨g, 0, none⟩) n cap) (its.map (·.1))) := by
  have hS := sort_any w base g cap n F its hn hpos hn2 hrow hsz
  subst hn
  have HS := Lib.hid hS; clear hS
  go_enter Tryd.func55, Tryd.ntmps55
  go_wp2_with fail
  refine HS.out.mono ?_
  rintro e w1 ⟨rfl, its1, hperm, hle, hrow1, hg1⟩
  have hC := compact_any w1 base g cap its.length F its1 hperm.length_eq.symm hn2 hrow1 (fun x hx => hsz x (hperm.mem_iff.1 hx))
  have HC := Lib.hid hC; clear hC
  go_wp2_with fail
  refine HC.out.mono ?_
  rintro e w2 ⟨v2, rfl, hrow2, hg2, hv2⟩
  have hasc := comp_asc its1 hle
  have hmem : ∀ t, t ∈ (comp its1).map (·.1) ↔ t ∈ its.map (·.1) := fun t => by rw [mem_comp, (hperm.map _).mem_iff]
  have hset := Tm.set_eq hasc hmem
  have hsz2 : ∀ x ∈ comp its1, x.1.size ≤ 1000000 := fun x hx => hsz x (hperm.mem_iff.1 ((comp_sublist its1).subset hx))
  have hlen2 : (comp its1).length ≤ its.length := by have := (comp_sublist its1).length_le; rw [hperm.length_eq] at this; exact this
  generalize comp its1 = its2 at *
  rcases hrow2.own.2 with ⟨hv, _⟩ | ⟨g', cap2, cur, hv, _, _, _, _⟩
  · subst hv; cases hv2
  subst hv
  obtain rfl : g' = g := by simpa [Value.ownBlock] using hv2
  have hgrow : w.grownBy w2 (some g') := hg1.trans hg2
  have hgl : g' < w.heap.size := (hrow.lt g' rfl).2
  have HSET := Lib.hid hset; clear hset
  have HG := Lib.hid hgrow
  have hrow2' : RowT w2 base (fun b => F b ∨ w.heap.size ≤ b) (.slice (some ⟨g', 0, none⟩) its2.length cap2) its2 := ⟨hrow2.own, fun x hx => RepP.mono (fun b ⟨h1, h2⟩ => ⟨.inl h1, h2⟩) (fun _ _ => rfl) _ _ _ (hrow2.reps x hx)⟩
  have HR2 := Lib.hid hrow2'
  have HSZ := Lib.hid hsz2
  have hN : its2.length ≤ 10000000 := by omega
  clear hrow2' hrow2 hsz2 HC HS hasc hmem hle hrow1 hg1 hg2 hv2 hgrow hperm
  go_wp2_with fail
  go_loopw [10] (fun a wr => ∃ (i : Nat) (cur : List It), a = .int .i64 i ∧ i ≤ its2.length ∧ cur.length = its2.length ∧ Hid (RowT wr base (fun b => F b ∨ w.heap.size ≤ b) (.slice (some ⟨g', 0, none⟩) its2.length cap2) cur) ∧
      Hid (cur.map (·.1) = its2.map (·.1)) ∧ Hid (∀ j, (h : j < cur.length) → j < i → RepP wr (fun b => w.heap.size ≤ b ∧ b < wr.heap.size ∧ g' ≠ b) cur[j].1 cur[j].2.1 cur[j].2.2) ∧ Hid (w.grownBy wr (some g')))
    (fun a _ => its2.length - (intOf a).toNat)
  case atStart => exact ⟨0, its2, rfl, Nat.zero_le _, rfl, HR2.out, rfl, fun j _ h => absurd h (Nat.not_lt_zero j), HG.out⟩
  case round =>
    obtain ⟨i, cur, rfl, hi, hcl, HR, HM, HF, HG⟩ := hrel
    by_cases hlt : i < its2.length
    · have hic : i < cur.length := by omega
      obtain ⟨k0, k1, k2, k3, _⟩ := HR.out.slot hcl.symm i hic
      have hsi : cur[i].1.size ≤ 1000000 := by
        have h1 := congrArg (·[i]?) HM.out
        simp only [List.getElem?_map, List.getElem?_eq_getElem hic, List.getElem?_eq_getElem hlt, Option.map_some, Option.some.injEq] at h1
        rw [h1]; exact HSZ.out _ (List.getElem_mem _)
      have hcl' := clone_any 1000000 cur[i].1 cur[i].2.1 cur[i].2.2 wr hsi (Nat.le_refl _) (RepP.mono (fun b h => h.2.1) (fun _ _ => rfl) _ _ _ (HR.out.reps _ (List.getElem_mem _)))
      have HCL := Lib.hid hcl'; clear hcl'
      have i1 : (i : Int) < (its2.length : Int) := by omega
      obtain ⟨it, hit⟩ : ∃ it, it = cur[i] := ⟨_, rfl⟩
      rw [← hit] at HCL k0 k1 k2 k3
      have HIT := Lib.hid hit; clear hit
      simp only [Tm.val] at HCL
      go_wp2_with fail
      refine HCL.out.mono ?_
      rintro e w3 ⟨A, c, rfl, hrep, hbel⟩
      have hR3 := HR.out.below hbel
      obtain ⟨m0, m1, m2, m3, m4⟩ := hR3.slot hcl.symm i hic
      have hs3 := hbel.size
      have hgw := (HR.out.lt g' rfl).2
      have hww := HG.out.size
      have hX : RepP w3 (fun b => (F b ∨ w.heap.size ≤ b) ∧ b < w3.heap.size ∧ g' ≠ b) it.1 A c := RepP.mono (fun b ⟨h1, h2⟩ => ⟨.inr (by omega), h2, by omega⟩) (fun _ _ => rfl) _ _ _ hrep
      have hset := hR3.set hcl.symm i hlt (it.1, A, c) hX
      have hX2 : RepP w3 (fun b => w.heap.size ≤ b ∧ b < w3.heap.size ∧ g' ≠ b) it.1 A c := RepP.mono (fun b ⟨h1, h2⟩ => ⟨by omega, h2, by omega⟩) (fun _ _ => rfl) _ _ _ hrep
      have hold : ∀ j, (h : j < cur.length) → j < i → RepP w3 (fun b => w.heap.size ≤ b ∧ b < w3.heap.size ∧ g' ≠ b) cur[j].1 cur[j].2.1 cur[j].2.2 := fun j h h' =>
        RepP.mono (fun b ⟨h1, h2, h3⟩ => ⟨h1, by omega, h3⟩) (fun p ⟨_, h2, _⟩ => hbel.cell h2) _ _ _ (HF.out j h h')
      have HSE := Lib.hid hset; clear hset
      have HX := Lib.hid hX2; clear hX2 hX
      have HO := Lib.hid hold; clear hold
      have hgr : w.grownBy w3 (some g') := HG.out.trans (grown_of_below hbel _)
      have HGR := Lib.hid hgr; clear hgr
      clear hrep hR3 hbel hs3
      generalize cur[i] = old at m0 m1 m2 m3
      go_wp2_with fail
      go_roundw
      case rel =>
        refine ⟨i + 1, cur.set i (it.1, A, c), by go_num, by omega, by rw [List.length_set]; exact hcl, HSE.out, ?_, ?_, HGR.out.trans (grown_set4 _ _ _ _ _ _ _ _ _ _)⟩
        · show (cur.set i (it.1, A, c)).map (·.1) = _
          rw [List.map_set, ← HM.out, HIT.out]
          refine List.ext_getElem (by simp) fun j h1 h2 => ?_
          rw [List.getElem_set]
          split
          · subst_vars; simp
          · rfl
        · intro j h h'
          have h2 : j < cur.length := by simpa using h
          have hsz3 : ((((w3.setCell ⟨g', i * 4, none⟩ (.int .i64 it.1.kind)).setCell ⟨g', i * 4 + 1, none⟩ (.string it.1.name)).setCell ⟨g', i * 4 + 2, none⟩ (.int .i64 it.1.sort)).setCell ⟨g', i * 4 + 3, none⟩ (.slice A it.1.kids.length c)).heap.size = w3.heap.size := by simp [World.setCell]
          rw [hsz3]
          refine RepP.set4 (fun k h => h.2.2) ?_
          rw [List.getElem_set]
          split
          · exact HX.out
          · exact HO.out j h2 (by omega)
      case measure => simp [intOf]; omega
    · obtain rfl : i = its2.length := by omega
      go_wp2_with fail
      go_ret
      refine ⟨_, cur, rfl, ⟨by have := HR.out.own; rw [← hcl] at this ⊢; exact this, fun x hx => ?_⟩, HG.out, rfl, by rw [HM.out, HSET.out]⟩
      obtain ⟨j, hj, rfl⟩ := List.getElem_of_mem hx
      exact RepP.mono (fun b ⟨h1, h2, h3⟩ => ⟨h1, h2, fun e => h3 (by injection e)⟩) (fun _ _ => rfl) _ _ _ (HF.out j hj (by omega))
end Go.Proofs.YtbgkabgbgbebaaaDoor
