/- term.Subterms, term.ofKind, term.Vars, term.Atoms. -/
import Derived.Test.YtbgkabgbgbebaaaDoorWalk
import Derived.Test.YtbgkabgbgbebaaaDoorOrdered
namespace Go.Proofs.YtbgkabgbgbebaaaDoor
open Go.RowKit

mutual
theorem Tm.mem_all_size : ∀ (t u : Tm), u ∈ t.all → u.size ≤ t.size
  | .mk k n s l, u, h => by
    rw [Tm.all, List.mem_cons] at h
    rcases h with rfl | h
    · exact Nat.le_refl _
    · have := Tm.mem_alls_size l u h; rw [Tm.size]; omega
theorem Tm.mem_alls_size : ∀ (l : List Tm) (u : Tm), u ∈ Tm.alls l → u.size ≤ Tm.sizes l
  | [], u, h => by simp [Tm.alls] at h
  | t :: r, u, h => by
    rw [Tm.alls, List.mem_append] at h
    rw [Tm.sizes]
    rcases h with h | h
    · have := Tm.mem_all_size t u h; omega
    · have := Tm.mem_alls_size r u h; omega
end

theorem ordered_none (w : World) (base : Nat) (F : Nat → Prop) (A : Option Addr) (cap : Nat) (hrow : RowT w base F (.slice A 0 cap) []) :
    Calls Tryd.prog 55 #[.slice A 0 cap] w (Ordered w base (.slice A 0 cap) []) := by
  rcases hrow.own.2 with ⟨hv, _⟩ | ⟨g, cap', cur, hv, hr⟩
  · rw [hv]; exact ordered_nil w base
  · have hS := (AnyF.slices_SortFunc_none (P := Tryd.prog) Tryd.sortTerm (some ⟨g, 0, none⟩) cap' (.func (.func 18) #[] #[]) w)
    have HS := Lib.hid hS; clear hS
    simp only [List.length_nil] at hv
    rw [hv] at hrow ⊢
    clear hr hv
    go_enter Tryd.func55, Tryd.ntmps55
    go_wp2_with fail
    refine HS.out.mono ?_
    rintro e w' ⟨rfl, rfl⟩
    go_wp2_with fail
    have hC : Calls Tryd.prog 68 #[.slice (some ⟨g, 0, none⟩) 0 cap', .func (.func 69) #[] #[]] w' fun e w'' => e = .returned (.slice (some ⟨g, 0, none⟩) 0 cap') ∧ w'' = w' := by
      go_enter Tryd.func68, Tryd.ntmps68
      go_wp2_with fail
      go_ret
      exact ⟨rfl, rfl⟩
    refine hC.mono ?_
    rintro e w'' ⟨rfl, rfl⟩
    go_wp2_with fail
    refine wp_loop_rounds 1 ?_
    rw [rounds_succ]
    go_wp2_with fail
    go_ret
    exact ⟨_, [], rfl, ⟨hrow.own, by simp⟩, grown_lay (Lay.refl _ _) _, rfl, rfl⟩

theorem ordered_row (w : World) (base : Nat) (F : Nat → Prop) (v : Value) (its : List It) (hn2 : its.length ≤ 10000000) (hrow : RowT w base F v its) (hsz : ∀ x ∈ its, x.1.size ≤ 1000000) :
    Calls Tryd.prog 55 #[v] w (Ordered w base v (its.map (·.1))) := by
  by_cases h0 : its = []
  · subst h0
    rcases hrow.own.2 with ⟨rfl, _⟩ | ⟨g, cap, cur, rfl, _⟩
    · exact ordered_none w base F _ _ hrow
    · exact ordered_none w base F _ _ hrow
  · have hpos : 0 < its.length := List.length_pos_iff.2 h0
    rcases hrow.own.2 with ⟨_, h⟩ | ⟨g, cap, cur, rfl, _⟩
    · omega
    · exact ordered_any w base g cap its.length F its rfl hpos hn2 hrow hsz

/-- The answer is a new list: these terms, each once, in order; nothing old turns. -/
def SetOf (w : World) (ts : List Tm) (e : Ending) (w' : World) : Prop :=
  ∃ v its, e = .returned v ∧ RowT w' w.heap.size (fun b => w.heap.size ≤ b) v its ∧ Below w.heap.size w w' ∧ its.map (·.1) = Tm.set ts

theorem below_of_grown {B : Nat} {w w1 w2 : World} {row : Option Nat} (h : Below B w w1) (hB : B ≤ w1.heap.size) (hg : w1.grownBy w2 row) (hr : ∀ k, row = some k → B ≤ k) : Below B w w2 :=
  ⟨hg.os.trans h.os, hg.tape.trans h.tape, hg.output.trans h.output, Nat.le_trans h.size hg.size, fun b hb => (hg.block b (by omega) (fun e => by have := hr b e.symm; omega)).trans (h.block b hb)⟩
theorem RowT.loosen {w : World} {base base' : Nat} {F F' : Nat → Prop} {v : Value} {its : List It} (h : RowT w base F v its) (hb : base' ≤ base) (hF : ∀ b, F b → F' b) : RowT w base' F' v its := by
  refine ⟨⟨h.own.1, ?_⟩, fun x hx => RepP.mono (fun b ⟨h1, h2⟩ => ⟨hF b h1, h2⟩) (fun _ _ => rfl) _ _ _ (h.reps x hx)⟩
  rcases h.own.2 with h | ⟨g, cap, cur, h1, h2, h3⟩
  · exact .inl h
  · exact .inr ⟨g, cap, cur, h1, by omega, h3⟩
/-- what stands behind the walk: the box is read, and ordered -/
theorem setOf_end {B0 cb : Nat} {w w1 w2 : World} {v : Value} {its : List It} {l : List Tm} {e : Ending} (hv : RowT w1 (cb + 1) (fun b => b < B0) v its) (hb : Below w.heap.size w w1) (hs : w.heap.size ≤ w1.heap.size) (hcb : w.heap.size ≤ cb)
    (hl : its.map (·.1) = l) (h : Ordered w1 (cb + 1) v (its.map (·.1)) e w2) : SetOf w l e w2 := by
  obtain ⟨v', its', rfl, hr, hg, ho, hm⟩ := h
  exact ⟨v', its', rfl, hr.loosen (by omega) (fun b hb => Nat.le_trans hs hb), below_of_grown hb hs hg (fun k hk => by have := (hv.lt k hk).1; omega), by rw [hm, hl]⟩

set_option maxHeartbeats 2000000 in
set_option maxRecDepth 100000 in
theorem kind_any (t : Tm) (A : Option Addr) (cap : Nat) (kd : Int) (w : World) (hn : t.size ≤ 1000000) (hrep : RepT w w.heap.size t A cap) :
    Calls Tryd.prog 57 #[t.val A cap, .int .i64 kd] w (SetOf w (t.all.filter fun u => u.kind == kd)) := by
  obtain ⟨w0, hw0⟩ : ∃ w0, w0 = (w.alloc (.cells #[.int .i64 t.kind, .string t.name, .int .i64 t.sort, .slice A t.kids.length cap] 24)).alloc (.cells #[.int .i64 kd] 3) := ⟨_, rfl⟩
  obtain ⟨w1, hw1⟩ : ∃ w1, w1 = w0.alloc (.cells #[.slice none 0 0] 22) := ⟨_, rfl⟩
  have hs0 : w0.heap.size = w.heap.size + 2 := by rw [hw0]; simp
  have hb0 : Below w.heap.size w w0 := by rw [hw0]; exact (below1 (Nat.le_refl _) _).alloc (by simp) _
  have hb1 : Below w0.heap.size w0 w1 := by rw [hw1]; exact below1 (Nat.le_refl _) _
  have hkb : w0.cell? ⟨w.heap.size + 1, 0, none⟩ = some (.int .i64 kd) := by 
    have h := heap_alloc_new (w.alloc (.cells #[.int .i64 t.kind, .string t.name, .int .i64 t.sort, .slice A t.kids.length cap] 24)) (.cells #[.int .i64 kd] 3)
    rw [← hw0, World.size_alloc] at h
    simp [World.cell?, h]
  have hacc : Acc w0.heap.size w0.heap.size w0 w1 [] := ⟨⟨.slice none 0 0, by rw [hw1]; exact heap_alloc_new _ _, RowT.nil _ _ _⟩, Nat.le_refl _, by rw [hw1]; simp, hb1⟩
  have hW := walk_any 71 _ _ w0.heap.size w0.heap.size w0 (visits_kind w0.heap.size w0.heap.size (w.heap.size + 1) kd w0 hkb (by omega)) (enters_of Tryd.func71 (by kernel_rfl) rfl) t.size t A cap w1 [] (Nat.le_refl _) (by simp; omega) hacc
    (hrep.go (hb0.trans (hb1.mono (by omega))) (by omega))
  have hsz : ∀ u ∈ t.all, u.size ≤ 1000000 := fun u hu => Nat.le_trans (Tm.mem_all_size t u hu) hn
  have hal : (t.all.filter fun u => u.kind == kd).length ≤ 10000000 := by
    have h1 := List.length_filter_le (fun u : Tm => u.kind == kd) t.all
    rw [Tm.all_length] at h1; omega
  simp only [List.map_nil, List.nil_append, hs0] at hW
  obtain ⟨post, hpost⟩ : ∃ p, p = Walked (w.heap.size + 2) (w.heap.size + 2) w0 w1 (t.all.filter fun u => u.kind == kd) := ⟨_, rfl⟩
  rw [← hpost, hw1, hw0] at hW
  have HW := Lib.hid hW; clear hW
  have HP := Lib.hid hpost; clear hpost
  have HB0 := Lib.hid hb0; clear hb0
  have HSZ := Lib.hid hsz; clear hsz
  have HS0 := Lib.hid hs0; clear hs0
  have HW0 := Lib.hid hw0; clear hw0
  clear hw1 hb1 hkb hacc hrep
  simp only [Tm.val] at HW ⊢
  go_enter Tryd.func57, Tryd.ntmps57
  go_wp2_with fail
  refine HW.out.mono ?_
  rw [HP.out]
  rintro e w2 ⟨rfl, hst, its, hacc, hmap⟩
  obtain ⟨⟨v, hbox, hrow⟩, hle, hlt, hbel⟩ := hacc
  have hcell : w2.cell? ⟨w.heap.size + 1 + 1, 0, none⟩ = some v := by simp [World.cell?, hbox]
  have hO := ordered_row w2 _ _ v its (by rw [← List.length_map (f := fun x : It => x.1), hmap]; exact hal) hrow (fun x hx => HSZ.out _ (List.mem_filter (p := fun u : Tm => u.kind == kd).1 (by rw [← hmap]; exact List.mem_map_of_mem hx)).1)
  have HO := Lib.hid hO; clear hO
  have HM := Lib.hid hmap; clear hmap
  have hres : ∀ e w3, Ordered w2 (w.heap.size + 2 + 1) v (its.map (·.1)) e w3 → SetOf w (t.all.filter fun u => u.kind == kd) e w3 := fun e w3 h =>
    setOf_end hrow (HB0.out.trans (hbel.mono (by have := HS0.out; omega))) (by have := hbel.size; have := HS0.out; omega) (by omega) HM.out h
  have HRES := Lib.hid hres; clear hres
  obtain ⟨Av, cv, rfl, _⟩ := hrow.toS (P := fun _ => True) (fun _ _ _ => trivial) (fun _ _ _ => trivial)
  clear hrow hbel hbox
  go_wp2_with fail
  refine HO.out.mono ?_
  rintro e w3 hord
  have hs := HRES.out _ _ hord
  obtain ⟨v', its', rfl, hs⟩ := hs
  have HS := Lib.hid hs; clear hs hord
  go_wp2_with fail
  go_ret
  exact ⟨v', its', rfl, HS.out⟩
theorem SetOf.of_alloc {w : World} {o : Obj} {l : List Tm} {e : Ending} {w' : World} (h : SetOf (w.alloc o) l e w') : SetOf w l e w' := by
  obtain ⟨v, its, he, hr, hb, hm⟩ := h
  exact ⟨v, its, he, hr.loosen (by simp) (fun b hb => by simp at hb; omega), (below1 (Nat.le_refl _) o).trans (hb.mono (by simp)), hm⟩

theorem vars_any (t : Tm) (A : Option Addr) (cap : Nat) (w : World) (hn : t.size ≤ 1000000) (hrep : RepT w w.heap.size t A cap) :
    Calls Tryd.prog 29 #[t.val A cap] w (SetOf w (t.all.filter fun u => u.kind == 1)) := by
  have hK := kind_any t A cap 1 (w.alloc (.cells #[.int .i64 t.kind, .string t.name, .int .i64 t.sort, .slice A t.kids.length cap] 24)) hn (hrep.go (below1 (Nat.le_refl _) _) (by simp))
  have HK := Lib.hid (hK.mono fun _ _ h => h.of_alloc); clear hK hrep
  simp only [Tm.val] at HK ⊢
  go_enter Tryd.func29, Tryd.ntmps29
  go_wp2_with fail
  refine HK.out.mono ?_
  rintro e w2 ⟨v', its', rfl, hs⟩
  go_wp2_with fail
  go_ret
  exact ⟨v', its', rfl, hs⟩
theorem atoms_any (t : Tm) (A : Option Addr) (cap : Nat) (w : World) (hn : t.size ≤ 1000000) (hrep : RepT w w.heap.size t A cap) :
    Calls Tryd.prog 31 #[t.val A cap] w (SetOf w (t.all.filter fun u => u.kind == 2)) := by
  have hK := kind_any t A cap 2 (w.alloc (.cells #[.int .i64 t.kind, .string t.name, .int .i64 t.sort, .slice A t.kids.length cap] 24)) hn (hrep.go (below1 (Nat.le_refl _) _) (by simp))
  have HK := Lib.hid (hK.mono fun _ _ h => h.of_alloc); clear hK hrep
  simp only [Tm.val] at HK ⊢
  go_enter Tryd.func31, Tryd.ntmps31
  go_wp2_with fail
  refine HK.out.mono ?_
  rintro e w2 ⟨v', its', rfl, hs⟩
  go_wp2_with fail
  go_ret
  exact ⟨v', its', rfl, hs⟩

set_option maxHeartbeats 2000000 in
set_option maxRecDepth 100000 in
theorem subterms_any (l : List Tm) (A : Option Addr) (cap : Nat) (w : World) (hn : Tm.sizes l ≤ 1000000) (hrep : RepS w (fun b => b < w.heap.size) l A cap) :
    Calls Tryd.prog 27 #[.slice A l.length cap] w (SetOf w (Tm.alls l)) := by
  have eg := enters_of (P := Tryd.prog) Tryd.func54 (by kernel_rfl) rfl
  obtain ⟨hr1, hr2, hr4⟩ := hrep
  have hls := Tm.length_le_sizes l
  have hb1 : Below w.heap.size w (w.alloc (.cells #[.slice none 0 0] 22)) := below1 (Nat.le_refl _) _
  have hacc0 : Acc w.heap.size w.heap.size w (w.alloc (.cells #[.slice none 0 0] 22)) [] := ⟨⟨.slice none 0 0, heap_alloc_new _ _, RowT.nil _ _ _⟩, Nat.le_refl _, by simp, hb1⟩
  have HA0 := Lib.hid hacc0; clear hacc0 hb1
  have EG := Lib.hid eg; clear eg
  go_enter Tryd.func27, Tryd.ntmps27
  go_wp2_with fail
  go_loopw [8] (fun i wr => ∃ (k : Nat) (its : List It), k ≤ l.length ∧ i = .int .i64 k ∧ Hid (Acc w.heap.size w.heap.size w wr its) ∧ Hid (its.map (·.1) = Tm.alls (l.take k)))
    (fun i _ => l.length - (intOf i).toNat)
  case atStart => exact ⟨0, [], Nat.zero_le _, rfl, HA0.out, by simp [Tm.alls, Hid]⟩
  case round =>
    obtain ⟨k, its, hk, rfl, HA, HM⟩ := hrel
    have hcb := HA.out.lt
    by_cases hlt : k < l.length
    · rcases hr4 with rfl | ⟨b, off, rfl, hbB, hl⟩
      · simp at hlt
      obtain ⟨A', cap', h0, h1, h2, h3, h5⟩ := (RepL.below hl HA.out.below hbB).get k hlt
      have hsg := Tm.sizes_get l k hlt
      have htk := Tm.sizes_take_succ l k hlt
      have htl := Tm.sizes_take_le l (k + 1)
      have hlen : its.length = Tm.sizes (l.take k) := by
        have h := congrArg List.length HM.out
        rw [Tm.alls_length, List.length_map] at h; exact h
      have HC : Hid (∀ X, Below wr.heap.size wr X → Calls Tryd.prog 53 #[l[k].val A' cap', .func (.func 54) #[] #[.pointer (some ⟨w.heap.size, 0, none⟩)]] X (Walked w.heap.size w.heap.size w X (its.map (·.1) ++ l[k].all.filter fun _ => true))) := fun X hX =>
        walk_any 54 _ _ w.heap.size w.heap.size w (visits_gather w.heap.size w.heap.size w) EG.out l[k].size l[k] A' cap' X its (Nat.le_refl _) (by omega) (HA.out.keep hX) (h5.go (hX.mono (by omega)) (Nat.le_refl _))
      clear h5 htk htl hlen hl hbB hsg
      simp only [Tm.val] at HC
      go_wp2_with fail
      refine (HC.out _ (below1 (Nat.le_refl _) _)).mono ?_
      rintro e w2 ⟨rfl, hst2, its2, hacc2, hmap2⟩
      have HM2 := Lib.hid hmap2; clear hmap2
      have HA2 := Lib.hid hacc2; clear hacc2
      clear hst2
      go_wp2_with fail
      go_roundw
      case rel => exact ⟨k + 1, its2, by omega, by go_num, HA2.out, by rw [HM2.out, HM.out, Tm.alls_take_succ l k hlt]; simp [Hid]⟩
      case measure => simp [intOf]; omega
    · obtain rfl : k = l.length := by omega
      have hmap : its.map (·.1) = Tm.alls l := by rw [HM.out, List.take_length]
      obtain ⟨⟨v, hbox, hrow⟩, hle, hlt2, hbel⟩ := HA.out
      have hcell : wr.cell? ⟨w.heap.size, 0, none⟩ = some v := by simp [World.cell?, hbox]
      have hlen : its.length ≤ 10000000 := by
        have h := congrArg List.length hmap
        rw [Tm.alls_length, List.length_map] at h; omega
      have hO := ordered_row wr _ _ v its hlen hrow (fun x hx => Nat.le_trans (Tm.mem_alls_size l x.1 (by rw [← hmap]; exact List.mem_map_of_mem hx)) hn)
      have HO := Lib.hid hO; clear hO
      have hres : ∀ e w3, Ordered wr (w.heap.size + 1) v (its.map (·.1)) e w3 → SetOf w (Tm.alls l) e w3 := fun e w3 h =>
        setOf_end hrow hbel hbel.size (Nat.le_refl _) hmap h
      have HRES := Lib.hid hres; clear hres
      obtain ⟨Av, cv, rfl, _⟩ := hrow.toS (P := fun _ => True) (fun _ _ _ => trivial) (fun _ _ _ => trivial)
      clear hrow hbel hbox hr4
      go_wp2_with fail
      refine HO.out.mono ?_
      rintro e w3 hord
      obtain ⟨v', its', rfl, hs⟩ := HRES.out _ _ hord
      have HS := Lib.hid hs; clear hs hord
      go_wp2_with fail
      go_ret
      exact ⟨v', its', rfl, HS.out⟩
end Go.Proofs.YtbgkabgbgbebaaaDoor
