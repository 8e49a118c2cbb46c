/- term.Positions: the closure that visits, and the whole. -/
import Derived.Test.YtbgkabgbgbebaaaDoorProw
import Derived.Test.YtbgkabgbgbebaaaDoorSubterms
import Derived.Test.YtbgkabgbgbebaaaDoorShl
namespace Go.Proofs.YtbgkabgbgbebaaaDoor
open Go.RowKit

mutual
/-- the positions of a term, in preorder -/
def Tm.poss : Tm → List (List Int)
  | .mk _ _ _ l => [] :: Tm.posss l 0
def Tm.posss : List Tm → Nat → List (List Int)
  | [], _ => []
  | t :: r, i => t.poss.map ((i : Int) :: ·) ++ Tm.posss r (i + 1)
end
mutual
theorem Tm.poss_length : ∀ t : Tm, t.poss.length = t.size
  | .mk _ _ _ l => by rw [Tm.poss, Tm.size, List.length_cons, Tm.posss_length l 0]; omega
theorem Tm.posss_length : ∀ (l : List Tm) (i : Nat), (Tm.posss l i).length = Tm.sizes l
  | [], _ => by simp [Tm.posss, Tm.sizes]
  | t :: r, i => by rw [Tm.posss, Tm.sizes, List.length_append, List.length_map, Tm.poss_length t, Tm.posss_length r (i + 1)]
end
theorem Tm.posss_take_succ : ∀ (l : List Tm) (j i : Nat) (h : i < l.length), Tm.posss (l.take (i + 1)) j = Tm.posss (l.take i) j ++ l[i].poss.map (((j + i : Nat) : Int) :: ·)
  | [], _, _, h => by simp at h
  | t :: r, j, 0, _ => by simp [Tm.posss]
  | t :: r, j, i + 1, h => by
    have := Tm.posss_take_succ r (j + 1) i (by simpa using h)
    simp only [List.take_succ_cons, Tm.posss, List.getElem_cons_succ, this, List.append_assoc]
    rw [show j + 1 + i = j + (i + 1) by omega]

/-- The box ob holds the list of positions, the box behind it the closure. -/
structure PAcc (B0 ob : Nat) (w0 w : World) (its : List Ip) : Prop where
  box : ∃ v, w.heap[ob]? = some (.cells #[v] 31 (0, 0)) ∧ PRow w (ob + 2) (fun b => ob + 2 ≤ b) v its
  vis : w.heap[ob + 1]? = some (.cells #[.func (.func 51) #[] #[.pointer (some ⟨ob, 0, none⟩), .pointer (some ⟨ob + 1, 0, none⟩)]] 59 (0, 0))
  le : B0 ≤ ob
  lt : ob + 1 < w.heap.size
  below : Below B0 w0 w
theorem PAcc.keep {B0 ob : Nat} {w0 w w' : World} {its : List Ip} (h : PAcc B0 ob w0 w its) (hb : Below w.heap.size w w') : PAcc B0 ob w0 w' its := by
  obtain ⟨⟨v, h1, h2⟩, h3, h4, h5, h6⟩ := h
  have := hb.size
  exact ⟨⟨v, (hb.block ob (by omega)).trans h1, h2.below hb⟩, (hb.block (ob + 1) h5).trans h3, h4, by omega, h6.trans (hb.mono (by omega))⟩

/-- a position that lies apart from what the gathering turns -/
def At (w : World) (ob : Nat) (p : List Int) (A : Option Addr) (cap : Nat) : Prop := IRep w (fun b => ob + 2 ≤ b ∧ b < w.heap.size ∧ ownAt w ob ≠ some b) p A cap
theorem At.step {w w' : World} {ob : Nat} {p : List Int} {A : Option Addr} {cap : Nat} (h : At w ob p A cap) (hs : Step ob w w') : At w' ob p A cap := by
  refine IRep.mono (fun b ⟨h1, h2, h3⟩ => ⟨h1, Nat.lt_of_lt_of_le h2 hs.size, fun e => ?_⟩) (fun q ⟨h1, h2, h3⟩ => World.cell?_of_block (hs.same q.block h2 (by omega) h3)) h
  rcases hs.own with e' | e'
  · rw [e'] at e; exact h3 e
  · have := e' b e; omega

theorem clone_pos (p : List Int) (A : Option Addr) (cap : Nat) (P : Nat → Prop) (w : World) (h : IRep w P p A cap) (hp : p.length ≤ 1000000) :
    Calls Tryd.prog 34 #[.slice A p.length cap] w fun e w' => ∃ g c, e = .returned (.slice (some ⟨g, 0, none⟩) p.length c) ∧ w'.ownsRow w.heap.size 3 1 (.slice (some ⟨g, 0, none⟩) p.length c) p.length (ints p) ∧
      w.heap.size ≤ g ∧ g < w'.heap.size ∧ Below w.heap.size w w' := by
  obtain ⟨b, off, rfl, _, h3, h4, h5⟩ := h
  refine (Tryd.slices_Clone_int b off p.length cap p w (Nat.le_refl _) (by omega) (fun j hj => h5 j _ (by simp [ints, hj]))).mono ?_
  rintro e w' ⟨v', rfl, ho, hv, hb⟩
  rw [List.take_length] at ho
  obtain ⟨g, c, rfl, h1, h2, _⟩ := irep_of_own (p := p) ho rfl hv
  exact ⟨g, c, rfl, ho, h1, h2, hb⟩

theorem own_base {w : World} {base base' : Nat} {e : TypeId} {size n : Nat} {v : Value} {xs : List Value} (h : w.ownsRow base e size v n xs) (hb : base' ≤ base) : w.ownsRow base' e size v n xs := by
  refine ⟨h.1, ?_⟩
  rcases h.2 with h | ⟨g, cap, cur, h1, h2, h3⟩
  · exact .inl h
  · exact .inr ⟨g, cap, cur, h1, by omega, h3⟩

def Visited (B0 ob : Nat) (w0 w : World) (l : List (List Int)) (e : Ending) (w' : World) : Prop :=
  e = .returned (.tuple #[]) ∧ Step ob w w' ∧ ∃ its', PAcc B0 ob w0 w' its' ∧ its'.map (·.1) = l

/-- what stands behind the first append -/
theorem pos_end {B0 ob g c : Nat} {w0 w w2 : World} {its : List Ip} {X : Ip} {v : Value} (hrow : PRow w2 (ob + 2) (fun b => ob + 2 ≤ b) (.slice (some ⟨g, 0, none⟩) (its.length + 1) c) (its ++ [X]))
    (hbox : w.heap[ob]? = some (.cells #[v] 31 (0, 0))) (hacc : PAcc B0 ob w0 w its) (hg : v.ownBlock = some g ∨ w.heap.size ≤ g) (hs : w.heap.size ≤ w2.heap.size)
    (h2 : ∀ b, b < w.heap.size → v.ownBlock ≠ some b → w2.heap[b]? = w.heap[b]?) (ho : w2.os = w.os) (ht : w2.tape = w.tape) (hu : w2.output = w.output) :
    PAcc B0 ob w0 (w2.setCell ⟨ob, 0, none⟩ (.slice (some ⟨g, 0, none⟩) (its.length + 1) c)) (its ++ [X]) ∧ Step ob w (w2.setCell ⟨ob, 0, none⟩ (.slice (some ⟨g, 0, none⟩) (its.length + 1) c)) := by
  obtain ⟨⟨v', h1, hr⟩, hvis, hle, hlt, hbel⟩ := hacc
  obtain rfl : v' = v := by rw [h1] at hbox; simpa using hbox
  have hown : ∀ b, b < ob + 2 → v'.ownBlock ≠ some b := fun b hb e => by have := (hr.lt b e).1; omega
  have hgo := (hrow.lt g rfl).1
  have hb1 : (w2.setCell ⟨ob, 0, none⟩ (.slice (some ⟨g, 0, none⟩) (its.length + 1) c)).heap[ob]? = some (.cells #[.slice (some ⟨g, 0, none⟩) (its.length + 1) c] 31 (0, 0)) := by
    have := (h2 ob (by omega) (hown ob (by omega))).trans h1
    simp [World.setCell, Array.getElem?_modify, this]
  have hsz : (w2.setCell ⟨ob, 0, none⟩ (.slice (some ⟨g, 0, none⟩) (its.length + 1) c)).heap.size = w2.heap.size := by simp [World.setCell]
  have hoth : ∀ b, b ≠ ob → (w2.setCell ⟨ob, 0, none⟩ (.slice (some ⟨g, 0, none⟩) (its.length + 1) c)).heap[b]? = w2.heap[b]? := fun b hb => Below.heap_setCell _ _ _ _ hb
  refine ⟨⟨⟨_, hb1, hrow.keep (by omega) (fun b hb hF => hoth b ?_)⟩, ?_, hle, by omega, ?_⟩, ?_⟩
  · rcases hF with h | h
    · omega
    · have := (hrow.lt b h).1; omega
  · rw [hoth _ (by omega), h2 _ hlt (hown _ (by omega))]; exact hvis
  · refine hbel.trans ⟨ho, ht, hu, by omega, fun b hb => ?_⟩
    rw [hoth b (by omega), h2 b (by omega) (hown b (by omega))]
  · exact step_end (w2 := w2) (n := its.length + 1) (cap := c) (T := 31) (v := v') (g := g) (by simp [World.cell?, h1]) hs h2 hg (fun b _ hc => hoth b hc) hsz hb1

set_option maxHeartbeats 4000000 in
set_option maxRecDepth 100000 in
theorem visit_any (B0 ob : Nat) (w0 : World) (n : Nat) : ∀ (t : Tm) (A : Option Addr) (cap : Nat) (p : List Int) (Ap : Option Addr) (cp : Nat) (w : World) (its : List Ip),
    t.size ≤ n → its.length + t.size ≤ 1000000 → p.length + n ≤ 1000000 → PAcc B0 ob w0 w its → RepT w B0 t A cap → At w ob p Ap cp →
    Calls Tryd.prog 51 #[t.val A cap, .slice Ap p.length cp, .pointer (some ⟨ob, 0, none⟩), .pointer (some ⟨ob + 1, 0, none⟩)] w
      (Visited B0 ob w0 w (its.map (·.1) ++ t.poss.map (p ++ ·))) := by
  have mixed : Tryd.prog.follows .mixedOrders = true := by kernel_rfl
  induction n with
  | zero => intro t _ _ _ _ _ _ _ h; have := t.size_pos; omega
  | succ n ih =>
    intro t A cap p Ap cp w its hn hlen hpn hacc hrep hat
    obtain ⟨tk, tn, ts, l⟩ := t
    rw [Tm.size] at hn hlen
    obtain ⟨W0, hW0⟩ : ∃ W0, W0 = w.alloc (.cells #[.int .i64 tk, .string tn, .int .i64 ts, .slice A l.length cap] 24) := ⟨_, rfl⟩
    have hb0 : Below w.heap.size w W0 := by rw [hW0]; exact below1 (Nat.le_refl _) _
    have hs0 : W0.heap.size = w.heap.size + 1 := by rw [hW0]; simp
    have hacc1 := hacc.keep hb0
    obtain ⟨⟨v, hbox, hrow⟩, hvis, hle, hlt, hbel⟩ := hacc1
    obtain ⟨Av, cv, rfl, _⟩ := hrow.form
    have hcb : ∀ X, Below W0.heap.size W0 X → X.cell? ⟨ob, 0, none⟩ = some (.slice Av its.length cv) := fun X hX => by rw [hX.cell (by show ob < _; omega)]; simp [World.cell?, hbox]
    have hcf : ∀ X, Below W0.heap.size W0 X → X.frozen? ⟨ob, 0, none⟩ = false := fun X hX => by rw [hX.frozen (by show ob < _; omega)]; simp [World.frozen?, hbox]
    have hbw : W0.heap[w.heap.size]? = some (.cells #[.int .i64 tk, .string tn, .int .i64 ts, .slice A l.length cap] 24 (0, 0)) := by rw [hW0]; exact heap_alloc_new _ _
    have hown0 : ∀ k, (Value.slice Av its.length cv).ownBlock = some k → ob + 2 ≤ k ∧ k < w.heap.size := fun k hk => by
      obtain ⟨⟨v', h1, h2⟩, _, _, h5, _⟩ := hacc
      have e : v' = .slice Av its.length cv := by
        have := (hb0.block ob (by omega)).trans h1
        rw [hbox] at this; simpa using this.symm
      subst e; exact h2.lt k hk
    have HC1 : Hid (∀ X, Below W0.heap.size W0 X → Calls Tryd.prog 34 #[.slice Ap p.length cp] X fun e w' => ∃ g c, e = .returned (.slice (some ⟨g, 0, none⟩) p.length c) ∧ w'.ownsRow X.heap.size 3 1 (.slice (some ⟨g, 0, none⟩) p.length c) p.length (ints p) ∧
      X.heap.size ≤ g ∧ g < w'.heap.size ∧ Below X.heap.size X w') := fun X hX =>
      clone_pos p Ap cp (fun _ => True) X (IRep.mono (fun _ _ => trivial) (fun q hq => (hb0.trans (hX.mono (by omega))).cell hq.2.1) hat) (by omega)
    have HBX := Lib.hid hbox
    have HOWN := Lib.hid hown0; clear hown0
    have HROW := Lib.hid hrow; clear hrow
    have HACC0 := Lib.hid hacc; clear hacc
    have HACC : Hid (PAcc B0 ob w0 W0 its) := HACC0.out.keep hb0
    have HAT := Lib.hid hat; clear hat
    have HCB := Lib.hid hcb
    have HREP := Lib.hid hrep; clear hrep
    have IH := Lib.hid ih; clear ih
    have HB0 := Lib.hid hb0; clear hb0
    have HS0 := Lib.hid hs0; clear hs0
    have HW0 := Lib.hid hW0; clear hW0
    have HBW := Lib.hid hbw; clear hbw
    have HVIS := Lib.hid hvis; clear hvis hbox hbel
    simp only [Tm.val, Tm.kind, Tm.name, Tm.sort, Tm.kids]
    go_enter Tryd.func51, Tryd.ntmps51
    go_wp2_with fail
    rw [← HW0.out]
    refine wp_region_mix (fun w' => w'.cell? ⟨ob, 0, none⟩ = some (.slice Av its.length cv)) 5 (.held 0 (.held 1 (.op 2 (.op 3 (.op 4 (.op 5 .nil)))))) mixed (by kernel_rfl) ?_
    refine mix_take (v := .slice Av its.length cv) rfl rfl (fun _ _ _ h => h) (by exact hcb _ (Below.refl _ _).drew) (fun w' hS => by go_simp) ?_
    refine mix_take (v := .slice Ap p.length cp) rfl rfl (fun _ _ _ h => h) (by exact hcb _ (Below.refl _ _).drew) (fun w' hS => by simp only [Act.put]; go_simp) ?_
    simp only [Act.put, List.setIfInBounds_toArray]
    refine mix_op rfl rfl (fun K hK => ?_)
    go_wp2_with fail
    refine (HC1.out _ (Below.refl _ _).drew).mono ?_
    rintro e w1 ⟨g1, c1, rfl, ho1, hg1, hg1', hb1⟩
    have hb1' : Below W0.heap.size W0 w1 := (Below.refl _ _).drew.trans (hb1.mono (by simp))
    refine hK _ _ ⟨fun _ => hcb _ hb1', ?_⟩
    clear hK K
    refine mix_op rfl rfl (fun K hK => ?_)
    go_wp2_with fail
    have hs1 := hb1'.size
    refine ⟨fun _ => hcb _ (hb1'.alloc hs1 _), ?_⟩
    refine mix_op rfl rfl (fun K hK => ?_)
    have hrow1 : PRow (w1.alloc (.cells #[.slice (some ⟨g1, 0, none⟩) p.length c1] 37)) (ob + 2) (fun b => ob + 2 ≤ b) (.slice Av its.length cv) its := (HROW.out.below (hb1'.alloc hs1 _))
    have hX1 : IRep (w1.alloc (.cells #[.slice (some ⟨g1, 0, none⟩) p.length c1] 37)) (fun b => ob + 2 ≤ b ∧ b < (w1.alloc (.cells #[.slice (some ⟨g1, 0, none⟩) p.length c1] 37)).heap.size ∧ (Value.slice Av its.length cv).ownBlock ≠ some b) p (some ⟨g1, 0, none⟩) c1 := by
      obtain ⟨g', c', he, _, _, hI⟩ := irep_of_own (p := p) ho1 rfl (by simp)
      injection he with h1 _ h3
      injection h1 with h1
      injection h1 with h1
      subst h1 h3
      refine IRep.mono (P := fun b => b = g1) ?_ (fun q hq => by rw [(below1 (Nat.le_refl _) _).cell (by rw [hq]; exact hg1')]) (hI _ rfl)
      rintro b rfl
      have h5 := HS0.out
      simp only [World.size_drew] at hg1
      exact ⟨by omega, by simp; omega, fun e => by have := (HOWN.out _ e).2; omega⟩
    refine wp_ppush (.tmp 8) (.tmp 11) (by rfl) (ob + 2) (fun b => ob + 2 ≤ b) (.slice Av its.length cv) its (by rfl) hrow1 (p, some ⟨g1, 0, none⟩, c1) w1.heap.size _ (0, 0) (by rfl) (by exact heap_alloc_new _ _) hX1 (by omega) (by simp; omega) ?_
    intro g c2 w2 hrow2 hgr2 hat2 hbg hgs2
    have hne : (Value.slice Av its.length cv).ownBlock ≠ some ob := fun e => by have := (HOWN.out _ e).1; omega
    have h2 : ∀ b, b < W0.heap.size → (Value.slice Av its.length cv).ownBlock ≠ some b → w2.heap[b]? = W0.heap[b]? := fun b hb hne => by
      rw [hgr2.block b (by simp; omega) (fun e => hne e.symm)]
      exact (hb1'.alloc hs1 _).block b hb
    have hs2 : W0.heap.size ≤ w2.heap.size := by have := hgr2.size; simp at this; omega
    have hc2 : w2.cell? ⟨ob, 0, none⟩ = some (.slice Av its.length cv) := by rw [World.cell?_of_block (h2 ob (by omega) hne)]; exact HCB.out _ (Below.refl _ _)
    have hf2 : w2.frozen? ⟨ob, 0, none⟩ = false := by rw [World.frozen?_of_block (h2 ob (by omega) hne)]; exact hcf _ (Below.refl _ _)
    refine hK _ _ ⟨fun _ => hc2, ?_⟩
    clear hK K
    have hg2 : (Value.slice Av its.length cv).ownBlock = some g ∨ W0.heap.size ≤ g := hat2.elim Or.inl (fun h => Or.inr (by rw [h]; simp; omega))
    have hend := pos_end hrow2 HBX.out HACC.out hg2 hs2 h2 (hgr2.os.trans hb1'.os) (hgr2.tape.trans hb1'.tape) (hgr2.output.trans hb1'.output)
    obtain ⟨hacc2, hst2⟩ := hend
    have HACC2 := Lib.hid hacc2; clear hacc2
    have HST2 := Lib.hid hst2; clear hst2
    clear hrow2 hgr2 hat2 hX1 hrow1 h2 hb1 hb1' ho1 hg1 hg1' hs1 hs2 hbg hg2
    simp only [Act.put, List.setIfInBounds_toArray]
    refine mix_op rfl rfl (fun K hK => ?_)
    go_wp2_with fail
    refine ⟨fun h => absurd h (by decide), mix_nil ?_⟩
    generalize w2.setCell ⟨ob, 0, none⟩ (.slice (some ⟨g, 0, none⟩) (its.length + 1) c2) = w3 at *
    clear mixed
    have mixed : Tryd.prog.follows .mixedOrders = true := by kernel_rfl
    have hob : ob < w.heap.size := by have := HACC0.out.lt; omega
    have hst03 : Step ob w w3 := (Step.of_below HB0.out hob).trans HST2.out
    have hbox3 : w3.heap[w.heap.size]? = some (.cells #[.int .i64 tk, .string tn, .int .i64 ts, .slice A l.length cap] 24 (0, 0)) := by
      rw [HST2.out.same w.heap.size (by have := HS0.out; omega) (by omega) (fun e => ?_)]
      · exact HBW.out
      · have e1 : ownAt W0 ob = (Value.slice Av its.length cv).ownBlock := by unfold ownAt; rw [HCB.out _ (Below.refl _ _)]; rfl
        rw [e1] at e; have := (HOWN.out _ e).2; omega
    have hc3 : w3.cell? ⟨w.heap.size, 3, none⟩ = some (.slice A l.length cap) := by simp [World.cell?, hbox3]
    have hr := HREP.out
    rw [RepT_mk] at hr
    obtain ⟨hr1, hr2, hr3, hr4⟩ := hr
    have hls := Tm.length_le_sizes l
    have hlen3 : its.length + 1 + Tm.sizes l ≤ 1000000 := by omega
    have HST3 := Lib.hid hst03; clear hst03
    clear hbox3 hcb hcf hc2 hf2 hne
    have hle' := HACC0.out.le
    go_wp2_with fail
    go_loopw [16] (fun i wr => ∃ (k : Nat) (its' : List Ip), k ≤ l.length ∧ i = .int .i64 k ∧ Hid (PAcc B0 ob w0 wr its') ∧ Hid (Step ob w wr) ∧ Hid (its'.map (·.1) = its.map (·.1) ++ p :: (Tm.posss (l.take k) 0).map (p ++ ·)))
      (fun i _ => l.length - (intOf i).toNat)
    case atStart => exact ⟨0, _, Nat.zero_le _, rfl, HACC2.out, HST3.out, by simp [Tm.posss, Hid]⟩
    case round =>
      obtain ⟨k, its', hk, rfl, HA, HS, HM⟩ := hrel
      by_cases hlt : k < l.length
      · rcases hr4 with rfl | ⟨b, off, rfl, hbB, hl⟩
        · simp at hlt
        have hwr : Below B0 w wr := ⟨(HA.out.below.os).trans HACC0.out.below.os.symm, (HA.out.below.tape).trans HACC0.out.below.tape.symm, (HA.out.below.output).trans HACC0.out.below.output.symm, HS.out.size, fun b hb => (HA.out.below.block b hb).trans (HACC0.out.below.block b hb).symm⟩
        obtain ⟨A', cap', h0, h1, h2, h3, h5⟩ := (RepL.below hl hwr hbB).get k hlt
        have hsg := Tm.sizes_get l k hlt
        have htk := Tm.sizes_take_succ l k hlt
        have htl := Tm.sizes_take_le l (k + 1)
        have hlen' : its'.length = its.length + 1 + Tm.sizes (l.take k) := by
          have h := congrArg List.length HM.out
          simp only [List.length_map, List.length_append, List.length_cons, Tm.posss_length] at h; omega
        have hob2 : ob + 1 < wr.heap.size := HA.out.lt
        obtain ⟨X0, hX0⟩ : ∃ X0, X0 = wr.alloc (.cells #[.int .i64 l[k].kind, .string l[k].name, .int .i64 l[k].sort, .slice A' l[k].kids.length cap'] 24) := ⟨_, rfl⟩
        have hX0b : Below wr.heap.size wr X0 := by rw [hX0]; exact below1 (Nat.le_refl _) _
        have hX0s : X0.heap.size = wr.heap.size + 1 := by rw [hX0]; simp
        have hbx : X0.heap[wr.heap.size]? = some (.cells #[.int .i64 l[k].kind, .string l[k].name, .int .i64 l[k].sort, .slice A' l[k].kids.length cap'] 24 (0, 0)) := by rw [hX0]; exact heap_alloc_new _ _
        have hatw : At wr ob p Ap cp := HAT.out.step HS.out
        -- the cells that are read while the region is walked
        obtain ⟨SS, hSS⟩ : ∃ SS : World → Prop, SS = fun w' => w'.cell? ⟨ob + 1, 0, none⟩ = some (.func (.func 51) #[] #[.pointer (some ⟨ob, 0, none⟩), .pointer (some ⟨ob + 1, 0, none⟩)]) ∧
          w'.cell? ⟨wr.heap.size, 0, none⟩ = some (.int .i64 l[k].kind) ∧ w'.cell? ⟨wr.heap.size, 1, none⟩ = some (.string l[k].name) ∧ w'.cell? ⟨wr.heap.size, 2, none⟩ = some (.int .i64 l[k].sort) ∧ w'.cell? ⟨wr.heap.size, 3, none⟩ = some (.slice A' l[k].kids.length cap') := ⟨_, rfl⟩
        have hS1 : ∀ X, Below X0.heap.size X0 X → SS X := fun X hX => by
          rw [hSS]
          have hv := HA.out.vis
          have e1 : X.heap[ob + 1]? = wr.heap[ob + 1]? := (hX.block _ (by omega)).trans (hX0b.block _ (by omega))
          have e2 : X.heap[wr.heap.size]? = X0.heap[wr.heap.size]? := hX.block _ (by omega)
          refine ⟨?_, ?_, ?_, ?_, ?_⟩
          · simp [World.cell?, e1, hv]
          all_goals simp [World.cell?, e2, hbx]
        -- the clone of the position, wherever it is called
        have HC2 : Hid (∀ X, Below wr.heap.size wr X → Calls Tryd.prog 34 #[.slice Ap p.length cp] X fun e w' => ∃ g c, e = .returned (.slice (some ⟨g, 0, none⟩) p.length c) ∧ w'.ownsRow X.heap.size 3 1 (.slice (some ⟨g, 0, none⟩) p.length c) p.length (ints p) ∧
          X.heap.size ≤ g ∧ g < w'.heap.size ∧ Below X.heap.size X w') := fun X hX =>
          clone_pos p Ap cp (fun _ => True) X (IRep.mono (fun _ _ => trivial) (fun q hq => hX.cell hq.2.1) hatw) (by omega)
        -- the visit of the kid, in the world behind the append
        have HV : Hid (∀ (X : World) (g c : Nat), Below wr.heap.size wr X → wr.heap.size < g → X.ownsRow X0.heap.size 3 1 (.slice (some ⟨g, 0, none⟩) (p.length + 1) c) (p.length + 1) (ints (p ++ [(k : Int)])) → g < X.heap.size → SS X →
            Calls Tryd.prog 51 #[l[k].val A' cap', .slice (some ⟨g, 0, none⟩) (p.length + 1) c, .pointer (some ⟨ob, 0, none⟩), .pointer (some ⟨ob + 1, 0, none⟩)] X fun e w' => e = .returned (.tuple #[]) ∧ SS w' ∧
              ∃ its'', PAcc B0 ob w0 w' its'' ∧ Step ob w w' ∧ its''.map (·.1) = its.map (·.1) ++ p :: (Tm.posss (l.take (k + 1)) 0).map (p ++ ·)) := fun X g c hX hg ho hgX hSX => by
          obtain ⟨g', c', he, _, _, hI⟩ := irep_of_own (p := p ++ [(k : Int)]) ho (by simp) (by simp)
          injection he with h1 _ h3
          injection h1 with h1
          injection h1 with h1
          subst h1 h3
          have haccX := HA.out.keep hX
          have hownX : ∀ b, ownAt X ob = some b → b < wr.heap.size := fun b hb => by
            obtain ⟨v, hb1, hr⟩ := HA.out.box
            have e1 : ownAt X ob = v.ownBlock := by unfold ownAt; rw [hX.cell (by show ob < _; omega)]; simp [World.cell?, hb1]
            rw [e1] at hb; exact (hr.lt b hb).2
          have hatX : At X ob (p ++ [(k : Int)]) (some ⟨g, 0, none⟩) c := IRep.mono (P := fun b => b = g) (by rintro b rfl; exact ⟨by omega, hgX, fun e => by have := hownX _ e; omega⟩) (fun _ _ => rfl) (hI _ rfl)
          have hC := IH.out l[k] A' cap' (p ++ [(k : Int)]) (some ⟨g, 0, none⟩) c X its' (by omega) (by omega) (by simp; omega) haccX (h5.go (hX.mono (by have := HA.out.le; omega)) (Nat.le_refl _)) hatX
          rw [show (p ++ [(k : Int)]).length = p.length + 1 by simp] at hC
          refine hC.mono ?_
          rintro e w' ⟨rfl, hst, its'', hacc'', hm''⟩
          have hob3 : ob < wr.heap.size := by omega
          refine ⟨rfl, ?_, its'', hacc'', HS.out.trans ((Step.of_below hX hob3).trans hst), ?_⟩
          · rw [hSS] at hSX ⊢
            obtain ⟨s0, s1, s2, s3, s4⟩ := hSX
            have hsX := hX.size
            have hlX : wr.heap.size < X.heap.size := by omega
            have hsame : w'.heap[wr.heap.size]? = X.heap[wr.heap.size]? := hst.same _ hlX (by omega) (fun e => by have := hownX _ e; omega)
            refine ⟨?_, ?_, ?_, ?_, ?_⟩
            · have := hacc''.vis; simp [World.cell?, this]
            all_goals (rw [World.cell?_of_block hsame]; assumption)
          · rw [hm'', HM.out, Tm.posss_take_succ l 0 k hlt]; simp
        have HX0 := Lib.hid hX0; clear hX0
        have HS1 := Lib.hid hS1; clear hS1
        have hS0 := HS1.out X0 (Below.refl _ _)
        have hSd := HS1.out X0.drew (Below.refl _ _).drew
        have HX0B := Lib.hid hX0b; clear hX0b
        clear h5 htk htl hlen' hatw hsg hbx hl
        have hS1' : ∀ X, SS X → X.cell? ⟨ob + 1, 0, none⟩ = some (.func (.func 51) #[] #[.pointer (some ⟨ob, 0, none⟩), .pointer (some ⟨ob + 1, 0, none⟩)]) ∧
          X.cell? ⟨wr.heap.size, 0, none⟩ = some (.int .i64 l[k].kind) ∧ X.cell? ⟨wr.heap.size, 1, none⟩ = some (.string l[k].name) ∧ X.cell? ⟨wr.heap.size, 2, none⟩ = some (.int .i64 l[k].sort) ∧ X.cell? ⟨wr.heap.size, 3, none⟩ = some (.slice A' l[k].kids.length cap') := fun X h => by rw [hSS] at h; exact h
        clear hSS
        have HSS := Lib.hid hS1'; clear hS1'
        simp only [Tm.val] at HV
        go_wp2_with fail
        rw [← HX0.out]
        refine wp_region_mix SS 8 (.held 0 (.held 1 (.held 2 (.held 4 (.two 3 5 (.op 5 (.op 6 (.op 7 .nil))) (.op 3 (.op 6 (.op 7 .nil)))))))) mixed (by kernel_rfl) ?_
        refine mix_take (v := .func (.func 51) #[] #[.pointer (some ⟨ob, 0, none⟩), .pointer (some ⟨ob + 1, 0, none⟩)]) rfl rfl (fun _ _ _ h => h) hSd (fun w' hS => by obtain ⟨g0, g1, g2, g3, g4⟩ := HSS.out w' hS; go_simp) ?_
        refine mix_take (v := .agg #[.int .i64 l[k].kind, .string l[k].name, .int .i64 l[k].sort, .slice A' l[k].kids.length cap']) rfl rfl (fun _ _ _ h => h) hSd (fun w' hS => by obtain ⟨g0, g1, g2, g3, g4⟩ := HSS.out w' hS; simp only [Act.put]; go_simp) ?_
        refine mix_take (v := .slice Ap p.length cp) rfl rfl (fun _ _ _ h => h) hSd (fun w' hS => by simp only [Act.put]; go_simp) ?_
        refine mix_take (v := .int .i64 k) rfl rfl (fun _ _ _ h => h) hSd (fun w' hS => by simp only [Act.put]; go_simp) ?_
        simp only [Act.put, List.setIfInBounds_toArray]
        refine mix_two (mix_op rfl rfl (fun K hK => ?_)) (mix_op rfl rfl (fun K hK => ?_))
        · go_wp2_with fail
          refine (HC2.out _ HX0B.out.drew).mono ?_
          rintro e w4 ⟨g2, c2', rfl, ho2, hg2, hg2', hb2⟩
          have hb2' : Below X0.heap.size X0 w4 := (Below.refl _ _).drew.trans (hb2.mono (by simp))
          refine hK _ _ ⟨fun _ => HS1.out _ hb2', ?_⟩
          clear hK K
          refine mix_op rfl rfl (fun K hK => ?_)
          go_wp2_with fail
          have hs2 := hb2'.size
          have hb3 : Below X0.heap.size X0 (w4.alloc (.cells #[.int .i64 k] 3)) := hb2'.alloc hs2 _
          have hs3 : X0.heap.size ≤ (w4.alloc (.cells #[.int .i64 k] 3)).heap.size := by simp; omega
          refine ⟨fun _ => HS1.out _ hb3, ?_⟩
          refine mix_op rfl rfl (fun K hK => ?_)
          refine wp_ipush (.tmp 24) (.tmp 26) (by rfl) X0.heap.size (.slice (some ⟨g2, 0, none⟩) p.length c2') p.length p (by rfl) (by have := ho2.alloc (.cells #[.int .i64 k] 3); simpa only [World.size_drew] using this) k w4.heap.size _ (0, 0) (by rfl) (by exact heap_alloc_new _ _) (by omega) (by simp; omega) ?_
          intro g c3 w5 ho5 hgr5 hbg hgs5
          have hb5 : Below X0.heap.size X0 w5 := below_of_grown hb3 hs3 hgr5 (fun q hq => by injection hq with hq; simp only [World.size_drew] at hg2; subst hq; show X0.heap.size ≤ g2; omega)
          refine hK _ _ ⟨fun _ => HS1.out _ hb5, ?_⟩
          clear hK K
          have hV := HV.out w5 g c3 (HX0B.out.trans (hb5.mono (by omega))) (by omega) ho5 hgs5 (HS1.out _ hb5)
          have HV' := Lib.hid hV; clear hV hb5 hb3 ho5 hgr5 ho2 hb2 hb2'
          simp only [Act.put, List.setIfInBounds_toArray]
          refine mix_op rfl rfl (fun K hK => ?_)
          go_wp2_with fail
          refine HV'.out.mono ?_
          rintro e w6 ⟨rfl, hS6, its'', hacc'', hst'', hm''⟩
          refine hK _ _ ⟨fun _ => hS6, mix_nil ?_⟩
          clear hK K
          have HA6 := Lib.hid hacc''; clear hacc''
          have HS6 := Lib.hid hst''; clear hst''
          have HM6 := Lib.hid hm''; clear hm''
          go_wp2_with fail
          go_roundw
          case rel => exact ⟨k + 1, its'', by omega, by go_num, HA6.out, HS6.out, HM6.out⟩
          case measure => simp [intOf]; omega
        · go_wp2_with fail
          refine ⟨fun _ => HS1.out _ ((Below.refl _ _).alloc (Nat.le_refl _) _).drew, ?_⟩
          refine mix_op rfl rfl (fun K hK => ?_)
          go_wp2_with fail
          refine (HC2.out _ ((HX0B.out.alloc (by omega) _).drew)).mono ?_
          rintro e w4 ⟨g2, c2', rfl, ho2, hg2, hg2', hb2⟩
          have hb2' : Below X0.heap.size X0 w4 := ((Below.refl _ _).alloc (Nat.le_refl _) _).drew.trans (hb2.mono (by simp))
          have hs2 := hb2'.size
          have hb3 := hb2'
          have hs3 := hs2
          have hsrc : w4.heap[wr.heap.size + 1]? = some (.cells #[.int .i64 k] 3 (0, 0)) := by
            rw [← hX0s, hb2.block _ (by simp)]; exact heap_alloc_new _ _
          refine hK _ _ ⟨fun _ => HS1.out _ hb2', ?_⟩
          clear hK K
          refine mix_op rfl rfl (fun K hK => ?_)
          refine wp_ipush (.tmp 24) (.tmp 26) (by rfl) X0.heap.size (.slice (some ⟨g2, 0, none⟩) p.length c2') p.length p (by rfl) (own_base ho2 (by simp)) k (wr.heap.size + 1) _ (0, 0) (by rfl) hsrc (by omega) (by omega) ?_
          intro g c3 w5 ho5 hgr5 hbg hgs5
          have hb5 : Below X0.heap.size X0 w5 := below_of_grown hb3 hs3 hgr5 (fun q hq => by injection hq with hq; simp only [World.size_drew, World.size_alloc] at hg2; subst hq; show X0.heap.size ≤ g2; omega)
          refine hK _ _ ⟨fun _ => HS1.out _ hb5, ?_⟩
          clear hK K
          have hV := HV.out w5 g c3 (HX0B.out.trans (hb5.mono (by omega))) (by omega) ho5 hgs5 (HS1.out _ hb5)
          have HV' := Lib.hid hV; clear hV hb5 hb3 ho5 hgr5 ho2 hb2 hb2'
          simp only [Act.put, List.setIfInBounds_toArray]
          refine mix_op rfl rfl (fun K hK => ?_)
          go_wp2_with fail
          refine HV'.out.mono ?_
          rintro e w6 ⟨rfl, hS6, its'', hacc'', hst'', hm''⟩
          refine hK _ _ ⟨fun _ => hS6, mix_nil ?_⟩
          clear hK K
          have HA6 := Lib.hid hacc''; clear hacc''
          have HS6 := Lib.hid hst''; clear hst''
          have HM6 := Lib.hid hm''; clear hm''
          go_wp2_with fail
          go_roundw
          case rel => exact ⟨k + 1, its'', by omega, by go_num, HA6.out, HS6.out, HM6.out⟩
          case measure => simp [intOf]; omega
      · obtain rfl : k = l.length := by omega
        go_wp2_with fail
        go_end0
        exact ⟨rfl, HS.out, its', HA.out, by rw [HM.out, List.take_length, Tm.poss]; simp⟩

theorem store_new {P : Program} (X : World) (b : Nat) (hb : b = X.heap.size) (v old : Value) (T : TypeId) (hv : v.oneCell' = true) : (store ⟨b, 0, none⟩ v).run P (X.alloc (.cells #[old] T)) = .ok () (X.alloc (.cells #[v] T)) := by
  subst hb
  have c : (X.alloc (.cells #[old] T)).cell? ⟨X.heap.size, 0, none⟩ = some old := by unfold World.cell?; rw [heap_alloc_new]; rfl
  have f : (X.alloc (.cells #[old] T)).frozen? ⟨X.heap.size, 0, none⟩ = false := by unfold World.frozen?; rw [heap_alloc_new]; rfl
  rw [run_store _ _ _ _ _ hv, c, f, World.setCell_alloc_new]
  rfl
/-- The answer is the list of these positions, in new memory. -/
def PosOf (w : World) (l : List (List Int)) (e : Ending) (w' : World) : Prop :=
  ∃ v its, e = .returned v ∧ PRow w' w.heap.size (fun b => w.heap.size ≤ b) v its ∧ Below w.heap.size w w' ∧ its.map (·.1) = l

set_option maxHeartbeats 1000000 in
theorem positions_any (t : Tm) (A : Option Addr) (cap : Nat) (w : World) (hn : t.size ≤ 500000) (hrep : RepT w w.heap.size t A cap) :
    Calls Tryd.prog 20 #[t.val A cap] w (PosOf w t.poss) := by
  obtain ⟨W1, hW1⟩ : ∃ W1, W1 = w.alloc (.cells #[.int .i64 t.kind, .string t.name, .int .i64 t.sort, .slice A t.kids.length cap] 24) := ⟨_, rfl⟩
  obtain ⟨W2, hW2⟩ : ∃ W2, W2 = W1.alloc (.cells #[.slice none 0 0] 31) := ⟨_, rfl⟩
  obtain ⟨W3, hW3⟩ : ∃ W3, W3 = W2.alloc (.cells #[.func (.func 51) #[] #[.pointer (some ⟨w.heap.size + 1, 0, none⟩), .pointer (some ⟨w.heap.size + 1 + 1, 0, none⟩)]] 59) := ⟨_, rfl⟩
  obtain ⟨W4, hW4⟩ : ∃ W4, W4 = W3.alloc (.cells #[] 3) := ⟨_, rfl⟩
  have s1 : W1.heap.size = w.heap.size + 1 := by rw [hW1]; simp
  have s2 : W2.heap.size = w.heap.size + 1 + 1 := by rw [hW2]; simp [s1]
  have s3 : W3.heap.size = w.heap.size + 1 + 1 + 1 := by rw [hW3]; simp [s2]
  have s4 : W4.heap.size = w.heap.size + 1 + 1 + 1 + 1 := by rw [hW4]; simp [s3]
  have b1 : Below w.heap.size w W1 := by rw [hW1]; exact below1 (Nat.le_refl _) _
  have b2 : Below W1.heap.size W1 W2 := by rw [hW2]; exact below1 (Nat.le_refl _) _
  have b3 : Below W2.heap.size W2 W3 := by rw [hW3]; exact below1 (Nat.le_refl _) _
  have b4 : Below W3.heap.size W3 W4 := by rw [hW4]; exact below1 (Nat.le_refl _) _
  have hacc : PAcc (w.heap.size + 1) (w.heap.size + 1) W1 W4 [] := by
    refine ⟨⟨.slice none 0 0, ?_, PRow.nil _ _ _⟩, ?_, Nat.le_refl _, by omega, b2.trans ((b3.trans (b4.mono (by omega))).mono (by omega)) |>.mono (by omega)⟩
    · rw [b4.block _ (by omega), b3.block _ (by omega), hW2, ← s1]; exact heap_alloc_new _ _
    · rw [b4.block _ (by omega), hW3, ← s2]; exact heap_alloc_new _ _
  have hbw : Below w.heap.size w W4 := b1.trans ((b2.trans ((b3.trans (b4.mono (by omega))).mono (by omega))).mono (by omega))
  have hat : At W4 (w.heap.size + 1) [] (some ⟨w.heap.size + 1 + 1 + 1, 0, none⟩) 0 := by
    refine ⟨_, _, rfl, ⟨by omega, by omega, fun e => ?_⟩, Nat.le_refl _, Nat.zero_le _, by simp [ints]⟩
    obtain ⟨⟨v, h1, h2⟩, _⟩ := hacc
    have e1 : ownAt W4 (w.heap.size + 1) = v.ownBlock := by unfold ownAt; simp [World.cell?, h1]
    rw [b4.block _ (by omega), b3.block _ (by omega), hW2, ← s1, heap_alloc_new] at h1
    rw [e1] at e
    have : v = .slice none 0 0 := by simpa using h1.symm
    subst this; cases e
  have hC := visit_any (w.heap.size + 1) (w.heap.size + 1) W1 t.size t A cap [] (some ⟨w.heap.size + 1 + 1 + 1, 0, none⟩) 0 W4 [] (Nat.le_refl _) (by simp; omega) (by simp; omega) hacc (hrep.go hbw (by omega)) hat
  simp only [List.map_nil, List.nil_append, List.length_nil, List.map_id'] at hC
  have HW4 : Hid (W4 = (((w.alloc (.cells #[.int .i64 t.kind, .string t.name, .int .i64 t.sort, .slice A t.kids.length cap] 24)).alloc (.cells #[.slice none 0 0] 31)).alloc (.cells #[.func (.func 51) #[] #[.pointer (some ⟨w.heap.size + 1, 0, none⟩), .pointer (some ⟨w.heap.size + 1 + 1, 0, none⟩)]] 59)).alloc (.cells #[] 3)) := by
    rw [hW4, hW3, hW2, hW1]; exact rfl
  have HC := Lib.hid hC; clear hC hat hrep
  have HB := Lib.hid hbw; clear hbw
  have HB1 := Lib.hid b1; clear b1
  clear b2 b3 b4 hW1 hW2 hW3 hW4 s2 s3 s4 hacc
  simp only [Tm.val] at HC ⊢
  go_enter Tryd.func20, Tryd.ntmps20
  have hst : (store ⟨w.heap.size + 1 + 1, 0, none⟩ (.func (.func 51) #[] #[.pointer (some ⟨w.heap.size + 1, 0, none⟩), .pointer (some ⟨w.heap.size + 1 + 1, 0, none⟩)])).run Tryd.prog (((w.alloc (.cells #[.int .i64 t.kind, .string t.name, .int .i64 t.sort, .slice A t.kids.length cap] 24)).alloc (.cells #[.slice none 0 0] 31)).alloc (.cells #[.nilFunc] 59)) =
      .ok () (((w.alloc (.cells #[.int .i64 t.kind, .string t.name, .int .i64 t.sort, .slice A t.kids.length cap] 24)).alloc (.cells #[.slice none 0 0] 31)).alloc (.cells #[.func (.func 51) #[] #[.pointer (some ⟨w.heap.size + 1, 0, none⟩), .pointer (some ⟨w.heap.size + 1 + 1, 0, none⟩)]] 59)) := by
    exact store_new _ _ (by simp) _ _ _ rfl
  go_wp2_with fail
  rw [← HW4.out]
  refine HC.out.mono ?_
  rintro e w5 ⟨rfl, hst, its, ⟨⟨v, hbox, hrow⟩, _, _, _, hbel⟩, hmap⟩
  obtain ⟨Av, cv, rfl, _⟩ := hrow.form
  have hcell : w5.cell? ⟨w.heap.size + 1, 0, none⟩ = some (.slice Av its.length cv) := by simp [World.cell?, hbox]
  have HR := Lib.hid (hrow.loosen (base' := w.heap.size) (F' := fun b => w.heap.size ≤ b) (by omega) (fun b hb => by omega)); clear hrow
  have HBB := Lib.hid (HB1.out.trans (hbel.mono (by omega))); clear hbel
  have HM := Lib.hid hmap; clear hmap hst hbox
  go_wp2_with fail
  go_ret
  exact ⟨_, its, rfl, HR.out, HBB.out, HM.out⟩
end Go.Proofs.YtbgkabgbgbebaaaDoor
