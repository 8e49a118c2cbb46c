/- Urbind3, Urcho, Uasc, Usolve, Ursol, Uunify, UsameB, Uaw0, Uavoid (joined by shake.py). -/
import Derived.Test.YtpjmdilpldaapaaGreatDoorK6
import Derived.Test.YtpjmdilpldaapaaGreatDoorK11
import Derived.Test.YtpjmdilpldaapaaGreatDoorK12
import Derived.Test.YtpjmdilpldaapaaGreatDoorK15
set_option maxRecDepth 100000
namespace Go.Proofs.YtpjmdilpldaapaaGreatDoor
open Go.RowKit Go.Sort
theorem elemRPair : Elem8 58 57 := ⟨Tryz.underlying58, by kernel_rfl⟩
theorem four_set (b : Nat) {Z : World} {x : Tm} {X : Option Addr} {cx : Nat} {p q r s : Value} (h : Z.heap[b]? = some (.cells #[p, q, r, s] 24 (0, 0))) :
  ((((Z.setCell ⟨b, 0, none⟩ (.int .i64 x.kind)).setCell ⟨b, 1, none⟩ (.string x.name)).setCell ⟨b, 2, none⟩ (.int .i64 x.sort)).setCell ⟨b, 3, none⟩ (.slice X x.kids.length cx)).heap[b]? = some (boxT x X cx) := qc1 h
theorem four_oth (b k : Nat) {Z : World} {x : Tm} {X : Option Addr} {cx : Nat} (h : k ≠ b) :
  ((((Z.setCell ⟨b, 0, none⟩ (.int .i64 x.kind)).setCell ⟨b, 1, none⟩ (.string x.name)).setCell ⟨b, 2, none⟩ (.int .i64 x.sort)).setCell ⟨b, 3, none⟩ (.slice X x.kids.length cx)).heap[k]? = Z.heap[k]? := by
 iterate 4 rw [Below.heap_setCell _ _ _ _ h]
theorem four_bel (b B : Nat) {w Z : World} {x : Tm} {X : Option Addr} {cx : Nat} (h : Below B w Z) (hb : B ≤ b) :
  Below B w ((((Z.setCell ⟨b, 0, none⟩ (.int .i64 x.kind)).setCell ⟨b, 1, none⟩ (.string x.name)).setCell ⟨b, 2, none⟩ (.int .i64 x.sort)).setCell ⟨b, 3, none⟩ (.slice X x.kids.length cx)) := by
 iterate 4 refine Below.setCell ?_ (by exact hb) _
 exact h
theorem Four.swap {w Z : World} {x y : Tm} {X Y : Option Addr} {cx cy : Nat} {o3 o4 : Obj} (h : Four w (boxT x X cx) (boxT y Y cy) o3 o4 Z) :
  Four w (boxT y Y cy) (boxT x X cx) o3 o4 ((((((((Z.setCell ⟨w.heap.size, 0, none⟩ (.int .i64 y.kind)).setCell ⟨w.heap.size, 1, none⟩ (.string y.name)).setCell ⟨w.heap.size, 2, none⟩ (.int .i64 y.sort)).setCell ⟨w.heap.size, 3, none⟩ (.slice Y y.kids.length cy)).setCell ⟨w.heap.size + 1, 0, none⟩ (.int .i64 x.kind)).setCell ⟨w.heap.size + 1, 1, none⟩ (.string x.name)).setCell ⟨w.heap.size + 1, 2, none⟩ (.int .i64 x.sort)).setCell ⟨w.heap.size + 1, 3, none⟩ (.slice X x.kids.length cx)) :=
 ⟨(four_oth _ _ (by omega)).trans (four_set _ h.one), four_set _ ((four_oth _ _ (by omega)).trans h.two), (four_oth _ _ (by omega)).trans ((four_oth _ _ (by omega)).trans h.three), (four_oth _ _ (by omega)).trans ((four_oth _ _ (by omega)).trans h.four), four_bel _ _ (four_bel _ _ h.bel (Nat.le_refl _)) (by omega)⟩
set_option maxHeartbeats 2000000 in
theorem qm6 (a b : Bd) (A A' B B' : Option Addr) (c c' d d' : Nat) (w : World) (ha : a.1.size ≤ 1000000) (hb : b.1.size ≤ 1000000) (hra : RepT w w.heap.size a.1 A c) (hrb : RepT w w.heap.size b.1 B d) :
  Calls Tryz.prog 88 #[bval a A c A' c', bval b B d B' d'] w fun e w' => e = .returned (.int .i64 (a.1.cmp b.1)) ∧ Lay w.heap.size w w' := by
 obtain ⟨V, hV⟩ : ∃ V, V = (w.alloc (.cells (qei a A c A' c') 48)).alloc (.cells (qei b B d B' d') 48) := ⟨_, rfl⟩;have hl : Lay w.heap.size w V := by rw [hV]; exact ((Lay.refl _ _).alloc (Nat.le_refl _) _).alloc (by simp) _
 have CM : Hid (∀ Z, Lay w.heap.size w Z → Calls Tryz.prog 75 #[a.1.val A c, b.1.val B d] Z fun e w' => e = .returned (.int .i64 (a.1.cmp b.1)) ∧ Lay Z.heap.size Z w') := Lib.hid fun Z h => qc3 1000000 a.1 b.1 A B c d Z ha (by omega) hb (hra.go h.below h.size) (hrb.go h.below h.size);have HL := Lib.hid hl; clear hl;simp only [qei] at hV;have HV := Lib.hid hV; clear hV;have CON := Lib.hid (CM.out V HL.out); clear CM;simp only [Tm.val] at CON;simp only [bval, qei];go_enter Tryz.func88, Tryz.ntmps88
 go_wp2_with fail
 rw [← HV.out];refine CON.out.mono ?_;rintro e w1 ⟨rfl, hl1⟩;have HL1 := Lib.hid (HL.out.trans (hl1.mono HL.out.size)); clear hl1;go_wp2_with fail
 go_ret
 exact ⟨rfl, HL1.out⟩
theorem usort_any (w : World) (base g cap n : Nat) (F : Nat → Prop) (its : List IB) (hn : n = its.length) (hpos : 0 < n) (hn2 : n ≤ 10000000) (hrow : RowB w base F (.slice (some ⟨g, 0, none⟩) n cap) its) (hsz : ∀ x ∈ its, x.1.1.size ≤ 1000000) :
  Calls Tryz.prog 87 #[.slice (some ⟨g, 0, none⟩) n cap, .func (.func 88) #[] #[]] w (SortedIB w base g n cap F its) := by
 subst hn;have hgood : ∀ x ∈ its, GoodIB w g x := fun x hx => ⟨RepP.mono (fun b ⟨_, h2, h3⟩ => ⟨h2, fun e => h3 (by rw [e]; rfl)⟩) (fun _ _ => rfl) _ _ _ (hrow.reps x hx).1, hsz x hx⟩;obtain ⟨x0, hx0⟩ : ∃ x, x ∈ its := ⟨its[0], List.getElem_mem hpos⟩
 letI : Inhabited (GIB w g) := ⟨⟨x0, hgood x0 hx0⟩⟩
 obtain ⟨d, hd⟩ : ∃ d : Array (GIB w g), d.toList.map (·.1) = its := ⟨(its.attach.map fun x => ⟨x.1, hgood x.1 x.2⟩).toArray, by simp only [List.map_map, Function.comp_def]; exact List.attach_map_subtype_val its⟩;have hds : d.size = its.length := by rw [← hd]; simp
 rcases hrow.own.2 with ⟨hv, _⟩ | ⟨g', cap', cur, hv, hbase, hb, hnc, hcm, hcs, ht⟩
 ·cases hv
 injection hv with h1 h2 h3;injection h1 with h1;injection h1 with h1;subst h1 h3;have hgl : g < w.heap.size := (Array.getElem?_eq_some_iff.1 hb).1;have hflat : (flatK (qc6 w g) 8 d).toList = bCells its := by rw [qlq, hd]
 have hfs : (flatK (qc6 w g) 8 d).size = its.length * 8 := by simp [hds]
 have hH : HoldsK (qc6 w g) 8 w g 0 d := by
  intro j hj;rw [size_flatK] at hj;refine ⟨?_, by simp [World.frozen?, hb]⟩;have h1 : (cur.toList.take (its.length * 8))[j]? = (bCells its)[j]? := by rw [ht]
  rw [List.getElem?_take_of_lt (by omega), Array.getElem?_toList] at h1;simp only [World.cell?, hb, Nat.zero_add, Option.isSome_none, Bool.false_eq_true, if_false];rw [h1, ← hflat, Array.getElem?_toList, Array.getElem?_eq_getElem (by simpa using hj), getElem!_pos _ j (by simpa using hj)];rfl
 have hcmp : CmpLays Tryz.prog 88 #[] (qc6 w g) 8 (qkt w g) g 0 d.size w := by
  intro m os dk hdk x y;have hW : ∀ p : Addr, p.block < w.heap.size → p.block ≠ g → (sortWorldK (qc6 w g) 8 w g 0 m dk os).cell? p = w.cell? p := fun p hp hne => by
   unfold sortWorldK;rw [cell?_grow _ _ _ (by rw [size_putRowK]; exact hp), cell?_putRowK_other _ _ _ _ _ _ _ hne]; rfl
  have hS := size_sortWorldK_c (qc6 w g) 8 w g 0 m dk os;have hr : ∀ z : GIB w g, RepT (sortWorldK (qc6 w g) 8 w g 0 m dk os) (sortWorldK (qc6 w g) 8 w g 0 m dk os).heap.size z.1.1.1 z.1.1.2.1 z.1.1.2.2 := fun z =>
   RepP.mono (fun b ⟨h1, _⟩ => by omega) (fun p ⟨h1, h2⟩ => hW p h1 h2) _ _ _ z.2.1
  refine (qm6 x.1.bd y.1.bd x.1.1.2.1 x.1.2.2.1 y.1.1.2.1 y.1.2.2.1 x.1.1.2.2 x.1.2.2.2 y.1.1.2.2 y.1.2.2.2 _ x.2.2 y.2.2 (hr x) (hr y)).mono ?_;rintro e w' ⟨he, hl⟩;exact ⟨he, hl.grow⟩
 have eg : ∀ args w, (callFunc 88 args).run Tryz.prog w = .ok (.enter 88 args) w := enters_of Tryz.func88 (by kernel_rfl) rfl;have hcon := AnyQ.slices_SortFunc Tryz.sortBind 8 Tryz.isAgg48 Tryz.sizeOf48 (qc6 w g) (fun x => by unfold qc6; rw [qbc]; rfl) (fun x v hv => qee [x.1] v hv) (qkt w g) swo_cmpIB 88 #[] g 0 cap d w eg hcmp hH hgl (by omega);rw [hds] at hcon;refine Calls.mono hcon ?_;rintro e w' ⟨he, d', m, os, hperm, hsort, rfl⟩;have hs' : d'.size = its.length := hperm.1.trans hds;have hlen' : (d'.toList.map (·.1)).length = its.length := by simpa using hs'
 refine ⟨he, d'.toList.map (·.1), ?_, ?_, ⟨?_, ?_⟩, qch _⟩
 ·have h := hperm.2.2;rw [← hds, show d'.extract 0 d.size = d' by rw [hds, ← hs']; simp, show d.extract 0 d.size = d by simp] at h;rw [← hd]; exact h.map _
 ·intro i j hij hj;have hj' : j < its.length := by rw [hlen'] at hj; exact hj
  have h := hsort i j (Nat.zero_le _) hij hj';unfold ltOf qkt at h;rw [decide_eq_false_iff_not] at h;rw [getElem!_pos d' j (by omega), getElem!_pos d' i (by omega)] at h;have hneg := Tm.cmp_neg d'[i].1.1.1 d'[j].1.1.1;simp only [List.getElem_map, Array.getElem_toList];omega
 ·have hf' : (flatK (qc6 w g) 8 d').toList = bCells (d'.toList.map (·.1)) := qlq d';have hfs' : (flatK (qc6 w g) 8 d').size = its.length * 8 := by simp [hs']
  refine ⟨by rw [qbc], .inr ⟨g, cap, _, by rw [hlen'], hbase, qgr _ hb, by rw [hlen']; exact hnc, hcm, by simp [putCells, hcs], ?_⟩⟩;rw [hlen', ← hfs', qeu _ _ (by rw [hfs', hcs]; exact Nat.mul_le_mul_right _ hnc), hf']
 ·intro x hx;have hmem : x ∈ its := by
   have h := hperm.2.2;rw [← hds, show d'.extract 0 d.size = d' by rw [hds, ← hs']; simp, show d.extract 0 d.size = d by simp] at h;rw [← hd]; exact (h.map _).mem_iff.1 hx
  have hg := qch (w := w) (g := g) (n := m) (os := os) (flatK (qc6 w g) 8 d');have key : ∀ (t : Tm) A c, RepP w (fun b => F b ∧ b < w.heap.size ∧ (Value.slice (some ⟨g, 0, none⟩) its.length cap).ownBlock ≠ some b) t A c → RepP (grow (putRow id (Sort.ahead w m) g 0 (flatK (qc6 w g) 8 d')) os) (fun b => F b ∧ b < (grow (putRow id (Sort.ahead w m) g 0 (flatK (qc6 w g) 8 d')) os).heap.size ∧ (Value.slice (some ⟨g, 0, none⟩) its.length cap).ownBlock ≠ some b) t A c := fun t A c hr => by
   refine RepP.mono ?_ ?_ _ _ _ hr
   ·rintro b ⟨h1, h2, h3⟩; exact ⟨h1, Nat.lt_of_lt_of_le h2 hg.size, h3⟩
   ·rintro p ⟨h1, h2, h3⟩;exact World.cell?_of_block (hg.block p.block h2 (fun e => h3 (by rw [show g = p.block from by injection e with e; exact e.symm]; rfl)))
  exact ⟨key _ _ _ (hrow.reps x hmem).1, key _ _ _ (hrow.reps x hmem).2⟩
theorem usort_row (w : World) (base : Nat) (F : Nat → Prop) (A : Option Addr) (cap n : Nat) (its : List IB) (hn : n = its.length) (hn2 : n ≤ 10000000) (hrow : RowB w base F (.slice A n cap) its) (hsz : ∀ x ∈ its, x.1.1.size ≤ 1000000) :
  Calls Tryz.prog 87 #[.slice A n cap, .func (.func 88) #[] #[]] w (fun e w' => e = .returned (.tuple #[]) ∧ ∃ its', its'.Perm its ∧ (its'.map IB.bd).Pairwise LeB ∧
   RowB w' base F (.slice A n cap) its' ∧ w.grownBy w' (Value.slice A n cap).ownBlock) := by
 by_cases h0 : its = []
 ·subst h0;subst hn;have hS := (AnyF.slices_SortFunc_none (P := Tryz.prog) Tryz.sortBind A cap (.func (.func 88) #[] #[]) w);refine hS.mono ?_;rintro e w' ⟨rfl, rfl⟩;exact ⟨rfl, [], List.Perm.refl _, List.Pairwise.nil, hrow, grown_lay (Lay.refl _ _) _⟩
 ·have hpos : 0 < its.length := List.length_pos_iff.2 h0;rcases hrow.own.2 with ⟨_, h⟩ | ⟨g, cap', cur, hv, _⟩
  ·omega
  injection hv with h1 h2 h3;subst h1;refine (usort_any w base g cap n F its hn (by omega) hn2 hrow hsz).mono ?_;rintro e w' ⟨rfl, its', hp, hs, hr, hg⟩;refine ⟨rfl, its', hp, ?_, hr, hg⟩;rw [List.pairwise_iff_getElem];intro i j hi hj hij;simp only [List.length_map] at hi hj;have := hs i j hij hj;simpa [LeB, IB.bd] using this
def AscU (v : Value) (base : Nat) (F : Nat → Prop) (bs : List Bd) (w : World) (e : Ending) (w' : World) : Prop :=
 e = .returned v ∧ ∃ its', its'.map IB.bd = qg4 bs ∧ RowB w' base F v its' ∧ w.grownBy w' v.ownBlock
set_option maxHeartbeats 2000000 in
theorem qit (w : World) (base : Nat) (F : Nat → Prop) (A : Option Addr) (cap n : Nat) (its : List IB) (hn : n = its.length) (hn2 : n ≤ 10000000) (hrow : RowB w base F (.slice A n cap) its) (hsz : ∀ x ∈ its, x.1.1.size ≤ 1000000) (hv : qbs (its.map IB.bd)) :
  Calls Tryz.prog 62 #[.slice A n cap] w (AscU (.slice A n cap) base F (its.map IB.bd) w) := by
 subst hn;have SO := Lib.hid (usort_row w base F A cap its.length its rfl hn2 hrow hsz);go_enter Tryz.func62, Tryz.ntmps62
 go_wp2_with fail
 refine SO.out.mono ?_; clear SO;rintro e w5 ⟨rfl, its', hp, hs, hrow', hg⟩;have hbd := sorted_is (hp.map IB.bd) hs hv;have HRW := Lib.hid hrow'; clear hrow';have HG := Lib.hid hg; clear hg hs hp;have HBD := Lib.hid hbd; clear hbd;go_wp2_with fail
 go_ret
 exact ⟨rfl, its', HBD.out, HRW.out, HG.out⟩
theorem least_ex {p : Nat → Prop} : ∀ n, p n → ∃ n, p n ∧ ∀ m, p m → n ≤ m := by
 intro n
 induction n using Nat.strongRecOn with
 | _ n ih =>
  intro h;by_cases h2 : ∃ m, m < n ∧ p m
  ·obtain ⟨m, hm, hp⟩ := h2;exact ih m hm hp
  ·exact ⟨n, h, fun m hm => Classical.byContradiction fun e => h2 ⟨m, by omega, hm⟩⟩
theorem least_fun (p : World → Nat → Prop) : ∃ μ : World → Nat, ∀ w n, p w n → p w (μ w) ∧ μ w ≤ n := by
 refine ⟨fun w => Classical.epsilon fun n => p w n ∧ ∀ m, p w m → n ≤ m, fun w n h => ?_⟩;have := Classical.epsilon_spec (least_ex (p := p w) n h);exact ⟨this.1, this.2 n h⟩
theorem run_nil {n : Nat} {bs : List Bd} {r : Int × List Bd} (h : runU n [] bs = some r) : qjk [] bs = true ∧ r = (0, bs) := by
 cases n with
 | zero => rw [runU] at h; cases h
 | succ n =>
  rw [runU] at h
  split at h
  ·rename_i hg; exact ⟨hg, (Option.some.inj h).symm⟩
  ·cases h
theorem run_cons {n : Nat} {p : Bd} {ps bs : List Bd} {r : Int × List Bd} (h : runU n (p :: ps) bs = some r) : qjk (p :: ps) bs = true ∧
  (((qbw p.1 p.2 ps bs).1 ≠ 0 ∧ r = ((qbw p.1 p.2 ps bs).1, [])) ∨ ((qbw p.1 p.2 ps bs).1 = 0 ∧ ∃ m, m < n ∧ runU m (qbw p.1 p.2 ps bs).2.1 (qbw p.1 p.2 ps bs).2.2 = some r)) := by
 cases n with
 | zero => rw [runU] at h; cases h
 | succ n =>
  rw [runU] at h
  split at h
  ·rename_i hg
   refine ⟨hg, ?_⟩
   split at h
   ·rename_i he; exact .inl ⟨he, (Option.some.inj h).symm⟩
   ·rename_i he; exact .inr ⟨by simpa using he, n, by omega, h⟩
  ·cases h
def qdd (r : Int × List Bd) (w : World) (e : Ending) (w' : World) : Prop :=
 ∃ A c, e = .returned (.tuple #[.slice A (qcy r).1.length c, .int .i64 r.1]) ∧ RepB w' (fun b => b < w'.heap.size) (qcy r).1 A c ∧ Below w.heap.size w w'
theorem qhb {w w' : World} {n : Int} (hn : n ≠ 0) (h : Below w.heap.size w w') : qdd (n, []) w (.returned (.tuple #[.slice none 0 0, .int .i64 n])) w' := by
 have e : (qcy (n, ([] : List Bd))).1 = [] := by simp [qcy, hn]
 refine ⟨none, 0, by rw [e]; rfl, by rw [e]; exact ⟨Nat.le_refl _, by simp [maxLen], .inl rfl⟩, h⟩
set_option maxHeartbeats 2000000 in
theorem solve_any (n0 : Nat) (ps0 : List Bd) (r : Int × List Bd) (A : Option Addr) (c : Nat) (w : World) (hr : RepB w (fun b => b < w.heap.size) ps0 A c) (hrun : runU n0 ps0 [] = some r) :
  Calls Tryz.prog 38 #[.slice A ps0.length c] w (qdd r w) := by
 have hVA : r.1 = 0 → qbs r.2 := fun h => by
  obtain ⟨e, s⟩ := r;have h : e = 0 := h;subst h;exact (qi7 hrun ⟨List.Pairwise.nil, by simp⟩).2.1
 obtain ⟨W1, hW1⟩ : ∃ W1, W1 = w.alloc (.cells #[.slice A ps0.length c, .slice none 0 0] 85) := ⟨_, rfl⟩;have hb1 : Below w.heap.size w W1 := by rw [hW1]; exact qaf (Nat.le_refl _) _
 have hs1 : w.heap.size < W1.heap.size := by rw [hW1]; simp
 have hc1 : W1.heap[w.heap.size]? = some (.cells #[.slice A ps0.length c, .slice none 0 0] 85 (0, 0)) := by rw [hW1]; exact heap_alloc_new _ _
 obtain ⟨xb, hxb⟩ : ∃ xb, xb = w.heap.size := ⟨_, rfl⟩;have hst : StU xb ps0 [] W1 := by
  rw [hxb];refine ⟨A, c, none, 0, [], hc1, RepB.mono (fun b h => ⟨Nat.ne_of_lt h, Nat.lt_trans h hs1, fun e => by cases e⟩) (fun p hp => hb1.cell hp) hr, RowG.nil _ _ _ _, rfl⟩
 obtain ⟨μ, hμ⟩ := least_fun fun wr n => ∃ ps bs, StU xb ps bs wr ∧ runU n ps bs = some r;have HST := Lib.hid hst; clear hst;have HB1 := Lib.hid hb1; clear hb1;have HW1 := Lib.hid hW1; clear hW1 hc1;have HMU := Lib.hid hμ; clear hμ;have HRUN := Lib.hid hrun; clear hrun;have HVA := Lib.hid hVA; clear hVA;have HXB := Lib.hid hxb; clear hxb hr;go_enter Tryz.func38, Tryz.ntmps38
 go_wp2_with fail
 rw [← HW1.out, ← HXB.out];go_loopw [5] (fun _ wr => ∃ (n : Nat) (ps bs : List Bd), Hid (StU xb ps bs wr) ∧ Hid (runU n ps bs = some r) ∧ Hid (Below xb w wr)) (fun _ wr => μ wr)
 case atStart => exact ⟨n0, ps0, [], HST.out, HRUN.out, by rw [HXB.out]; exact HB1.out⟩
 case round =>
  obtain ⟨n, ps, bs, HS1, HR1, HBW⟩ := hrel;obtain ⟨hle, -⟩ : (∃ ps bs, StU xb ps bs wr ∧ runU (μ wr) ps bs = some r) ∧ _ := HMU.out wr n ⟨ps, bs, HS1.out, HR1.out⟩;clear HS1 HR1;obtain ⟨ps, bs, hS1, hR1⟩ := hle;obtain ⟨PA, Pc, BA, Bc, its, hS⟩ := hS1;have hx := (Array.getElem?_eq_some_iff.1 hS.cell).1;obtain ⟨x0, x1, xf⟩ := qci hS.cell
  cases ps with
  | nil =>
   obtain ⟨hg, hr9⟩ := run_nil hR1;subst hr9;obtain ⟨-, hbl, -, hbs⟩ := qdj.1 hg;have hil : its.length = bs.length := by rw [← hS.is, List.length_map]
   have hsz : ∀ x ∈ its, x.1.1.size ≤ 1000000 := fun x hx => by
    have hm : x.bd ∈ bs := by rw [← hS.is]; exact List.mem_map_of_mem hx
    have h := qah (hbs _ hm).1;have h : x.1.1.size ≤ 400 := h;omega
   have hva : qbs (its.map IB.bd) := by rw [hS.is]; exact HVA.out rfl
   have AS := Lib.hid (qit wr (xb + 1) (fun b => b ≠ xb) BA Bc its.length its rfl (by omega) hS.row.bindB hsz hva);have HS := Lib.hid hS; clear hS hsz hva hbs hR1;have HIL := Lib.hid hil; clear hil hbl hg;go_wp2_with fail
   refine AS.out.mono ?_; clear AS x0 x1 xf;rintro e w5 ⟨rfl, its', hbd, hrow', hg'⟩;have HBD := Lib.hid hbd; clear hbd;have HRW := Lib.hid hrow'; clear hrow';have HG := Lib.hid hg'; clear hg';go_wp2_with fail
   go_ret2
   have hb5 : Below xb w w5 := HBW.out.grown HG.out (by omega) (fun j e => by have := (HS.out.row.lt _ e).1; omega);rw [HXB.out] at hb5;obtain ⟨A9, c9, hv9, hrb⟩ := HRW.out.toB (P := fun b => b < w5.heap.size) (fun b _ h => h) (fun b _ h => h);injection hv9 with g1 g2 g3;subst g1 g3;have e1 : (qcy ((0 : Int), bs)).1 = qg4 bs := by simp [qcy]
   have e2 : (qg4 bs).length = its.length := by rw [(qha _).length_eq, HIL.out]
   rw [HBD.out, HS.out.is] at hrb;exact ⟨BA, Bc, by rw [e1, e2]; rfl, by rw [e1]; exact hrb, hb5⟩
  | cons p ps =>
   obtain ⟨hg, hcase⟩ := run_cons hR1;have ST := step_any xb p ps bs PA Pc BA Bc its wr hS hg;have hgl := (qdj.1 hg).1;have i1 : (0 : Int) < ((p :: ps).length : Int) := by simp
   obtain ⟨q, hq⟩ : ∃ q, q = qbw p.1 p.2 ps bs := ⟨_, rfl⟩;rw [← hq] at hcase ST;clear hq;obtain ⟨q1, q2, q3⟩ := q;have ST := Lib.hid ST;have HCASE := Lib.hid hcase; clear hcase hR1;have HS := Lib.hid hS; clear hS hg;go_wp2_with fail
   refine ST.out.mono ?_; clear ST x0 x1 xf;rintro e w5 ⟨rfl, hst5, hb5⟩;have HB5 := Lib.hid (HBW.out.trans hb5); clear hb5;have HST5 := Lib.hid hst5; clear hst5;rcases eq_facts q1 0 with ⟨h0, e0, n0'⟩ | ⟨h0, e0, n0'⟩
   ·rcases HCASE.out with ⟨h, -⟩ | ⟨-, m, hm, hrun⟩
    ·exact absurd h0 h
    have hS5 : StU xb q2 q3 w5 := HST5.out h0;have hm5 := (HMU.out w5 m ⟨q2, q3, hS5, hrun⟩).2;have HS5 := Lib.hid hS5; clear hS5;have HR5 := Lib.hid hrun; clear hrun HCASE;subst h0;go_wp2_with fail
    go_roundw
    case rel => exact ⟨m, q2, q3, HS5.out, HR5.out, HB5.out⟩
    case measure => omega
   ·rcases HCASE.out with ⟨-, h⟩ | ⟨h, -⟩
    ·subst h;clear HCASE HMU HRUN HVA;go_wp2_with fail
     go_ret2
     have hb5 := HB5.out;rw [HXB.out] at hb5;exact qhb h0 hb5
    ·exact absurd h h0
structure StR (ps bs : List Bd) (PA : Option Addr) (Pc : Nat) (SA : Option Addr) (Sc : Nat) (w : World) : Prop where
 pairs : RepB w (fun b => b < w.heap.size) ps PA Pc
 binds : RepB w (fun b => b < w.heap.size) (qg4 bs) SA Sc
structure AtS (w : World) (bx by' : Nat) (o1 o2 : Obj) (Z : World) : Prop where
 bel : Below w.heap.size w Z
 one : Z.heap[bx]? = some o1
 two : Z.heap[by']? = some o2
theorem AtS.go {w Z Z' : World} {bx by' : Nat} {o1 o2 : Obj} (h : AtS w bx by' o1 o2 Z) (hb : Below Z.heap.size Z Z') : AtS w bx by' o1 o2 Z' :=
 ⟨qae h.bel hb h.bel.size, (hb.block _ (Array.getElem?_eq_some_iff.1 h.one).1).trans h.one, (hb.block _ (Array.getElem?_eq_some_iff.1 h.two).1).trans h.two⟩
theorem repB_one {w : World} {P : Nat → Prop} {B : Nat} {T : TypeId} (X : IB) (h : w.heap[B]? = some (.cells (bCells [X]).toArray T (0, 0))) (hP : P B) (h1 : RepP w P X.1.1 X.1.2.1 X.1.2.2) (h2 : RepP w P X.2.1 X.2.2.1 X.2.2.2) : RepB w P [X.bd] (some ⟨B, 0, none⟩) 1 := by
 refine ⟨Nat.le_refl _, by simp [maxLen], .inr ⟨B, 0, rfl, hP, ?_⟩⟩;have e : flat [X.bd] = (bits [X]).map (·.1) := (qfa [X]).symm;rw [e];refine qao.of_its (bits [X]) B 0 (fun j u hj => ?_) (fun y hy => ?_)
 ·have hj : (bCells [X])[j]? = some u := hj;rw [Nat.zero_add, cell_of_row w B j _ _ _ h]; simpa using hj
 ·obtain ⟨x, hx, e⟩ := qf6 hy;rw [List.mem_singleton] at hx;rw [hx] at e;rcases e with e | e
  ·rw [e]; exact h1
  ·rw [e]; exact h2
set_option maxHeartbeats 2000000 in
theorem qcx (t u : Tm) (A A' : Option Addr) (c c' : Nat) (w : World) (r : Int × List Bd) (ht : t.size ≤ 1000000) (hu : u.size ≤ 1000000) (hrt : RepT w w.heap.size t A c) (hru : RepT w w.heap.size u A' c')
  (h1 : qbd t u ≠ 0 → r = (qbd t u, [])) (h2 : qbd t u = 0 → ∃ n, runU n [(t, u)] [] = some r) :
  Calls Tryz.prog 12 #[t.val A c, u.val A' c'] w (qdd r w) := by
 obtain ⟨V, hV⟩ : ∃ V, V = (w.alloc (boxT t A c)).alloc (boxT u A' c') := ⟨_, rfl⟩;have h2' : Two w t u A A' c c' V := by rw [hV]; exact Two.new _ _ _ _ _ _ _
 have VV := qff t u A A' c c' V ht hu (hrt.go h2'.lay.below h2'.lay.size) (hru.go h2'.lay.below h2'.lay.size);obtain ⟨v2, hv2⟩ : ∃ v, v = qbd t u := ⟨_, rfl⟩;rw [← hv2] at h1 h2 VV;clear hv2;have H2 := Lib.hid h2';obtain ⟨a0, a1, a2, a3, -⟩ := qad h2'.one;obtain ⟨b0, b1, b2, b3, -⟩ := qad h2'.two;clear h2';simp only [boxT] at hV;have HV := Lib.hid hV; clear hV;have HRT := Lib.hid hrt; clear hrt;have HRU := Lib.hid hru; clear hru;have E1 := Lib.hid h1; clear h1;have E2 := Lib.hid h2; clear h2;simp only [Tm.val] at VV ⊢;have VV := Lib.hid VV;go_enter Tryz.func12, Tryz.ntmps12
 go_wp2_with fail
 rw [← HV.out];go_wp2_with fail
 refine VV.out.mono ?_; clear VV a0 a1 a2 a3 b0 b1 b2 b3;rintro e w1 ⟨rfl, hl1⟩;rcases eq_facts v2 0 with ⟨h0, e0, n0⟩ | ⟨h0, e0, n0⟩
 ·obtain ⟨n, hrun⟩ := E2.out h0;subst h0;clear E1 E2;obtain ⟨a0, a1, a2, a3, -⟩ := qad (H2.out.go hl1).one;obtain ⟨b0, b1, b2, b3, -⟩ := qad (H2.out.go hl1).two;have hl := (H2.out.go hl1).lay;obtain ⟨W2, hW2⟩ : ∃ W2, W2 = w1.alloc (.cells (bCells [((t, A, c), (u, A', c'))]).toArray 53) := ⟨_, rfl⟩;have hx2 : W2.heap[w1.heap.size]? = some (.cells (bCells [((t, A, c), (u, A', c'))]).toArray 53 (0, 0)) := by rw [hW2]; exact heap_alloc_new _ _
  have hb2 : Below w1.heap.size w1 W2 := by rw [hW2]; exact qaf (Nat.le_refl _) _
  have hbw : Below w.heap.size w W2 := qae hl.below hb2 hl.size;have hlt : w1.heap.size < W2.heap.size := (Array.getElem?_eq_some_iff.1 hx2).1;have hsz := hl.size;have SO := solve_any n [(t, u)] r (some ⟨w1.heap.size, 0, none⟩) 1 W2 (repB_one ((t, A, c), (u, A', c')) hx2 hlt (RepP.mono (fun b (h : b < w.heap.size) => by show b < _; omega) (fun p (hp : p.block < w.heap.size) => hbw.cell hp) _ _ _ HRT.out) (RepP.mono (fun b (h : b < w.heap.size) => by show b < _; omega) (fun p (hp : p.block < w.heap.size) => hbw.cell hp) _ _ _ HRU.out)) hrun;have SO := Lib.hid SO;have HBW := Lib.hid hbw; clear hbw hb2 hx2 hl hl1 hrun;simp only [bCells, bits, itCells, Tm.cells, List.cons_append, List.nil_append] at hW2;have HW2 := Lib.hid hW2; clear hW2 hlt;go_wp2_with fail
  rw [← HW2.out];refine SO.out.mono ?_; clear SO;rintro e w5 ⟨A9, c9, rfl, hrep, hb5⟩;have HREP := Lib.hid hrep; clear hrep;have HB5 := Lib.hid (qae HBW.out hb5 HBW.out.size); clear hb5;go_wp2_with fail
  go_ret2
  exact ⟨A9, c9, rfl, HREP.out, HB5.out⟩
 ·have hr := E1.out h0;subst hr;have HL := Lib.hid (H2.out.go hl1).lay; clear hl1 E1 E2;go_wp2_with fail
  go_ret2
  exact qhb h0 HL.out.below
set_option maxHeartbeats 1200000 in
theorem qen (l m : List Bd) (A0 A1 : Option Addr) (cap0 cap1 : Nat) (w : World) (hl : SizeB l) (hm : SizeB m) (hrl : RepB w (fun b => b < w.heap.size) l A0 cap0) (hrm : RepB w (fun b => b < w.heap.size) m A1 cap1) :
  Calls Tryz.prog 14 #[.slice A0 l.length cap0, .slice A1 m.length cap1] w fun e w' => e = .returned (.bool (decide (l = m))) ∧ Lay w.heap.size w w' := by
 have mixed : Tryz.prog.follows .mixedOrders = true := by kernel_rfl
 have h1 := hrl.1;have h2 := hrl.2.1;have h3 := hrm.1;have h4 := hrm.2.1;unfold maxLen at h2 h4;have HRL := Lib.hid hrl; clear hrl;have HRM := Lib.hid hrm; clear hrm;by_cases hne : l.length = m.length
 ·have hnb : ((l.length : Int) != (m.length : Int)) = false := by simp [hne]
  have HL := Lib.hid hl; clear hl;have HNE := Lib.hid hne; clear hne;have HM := Lib.hid hm; clear hm;go_enter Tryz.func14, Tryz.ntmps14
  go_wp2_with fail
  go_loopw [5] (fun i wr => ∃ k : Nat, k ≤ l.length ∧ i = .int .i64 k ∧ Hid (l.take k = m.take k) ∧ Hid (Lay w.heap.size w wr))
   (fun i _ => l.length - (intOf i).toNat)
  case atStart => exact ⟨0, Nat.zero_le _, rfl, rfl, Lay.refl _ _⟩
  case round =>
   obtain ⟨k, hk, rfl, HT, HLW⟩ := hrel;have i1 : (0 : Int) ≤ (k : Int) := Int.natCast_nonneg _;by_cases hlt : k < l.length
   ·have hlt2 : k < m.length := by have := HNE.out; omega
    have i2 : (k : Int) < (l.length : Int) := by omega
    have i3 : (k : Int) < (m.length : Int) := by omega
    rcases HRL.out.2.2 with h | ⟨b, off, hA0, hbB, hlp⟩
    ·rw [h] at hlt; simp at hlt
    rcases HRM.out.2.2 with h | ⟨b', off', hA1, hbB', hmp⟩
    ·rw [h] at hlt2; simp at hlt2
    subst hA0 hA1;have hss := HLW.out.size;obtain ⟨A, c, A', c', h8⟩ := (show qao wr (fun b => b < w.heap.size) (flat l) b off from qao.mono (fun _ h => h) (fun p hp => HLW.out.below.cell hp) _ _ _ hbB hlp).get8 k hlt;obtain ⟨C, d, C', d', g8⟩ := (show qao wr (fun b => b < w.heap.size) (flat m) b' off' from qao.mono (fun _ h => h) (fun p hp => HLW.out.below.cell hp) _ _ _ hbB' hmp).get8 k hlt2;have lift : ∀ (y : Tm) B e, RepP wr (fun b => b < w.heap.size) y B e → RepT wr wr.heap.size y B e := fun y B e h => RepP.mono (fun b (h : b < w.heap.size) => Nat.lt_of_lt_of_le h hss) (fun _ _ => rfl) _ _ _ h;have C1 : Hid (∀ X, Lay wr.heap.size wr X → Calls Tryz.prog 15 #[l[k].1.val A c, m[k].1.val C d] X fun e w' => e = .returned (.bool (l[k].1.same m[k].1)) ∧ Lay X.heap.size X w') := Lib.hid fun X hX =>
     qb3 _ _ _ _ _ _ X (HL.out _ (List.getElem_mem _)).1 (HM.out _ (List.getElem_mem _)).1 ((lift _ _ _ h8.r1).go hX.below hX.size) ((lift _ _ _ g8.r1).go hX.below hX.size)
    have C2 : Hid (∀ X, Lay wr.heap.size wr X → Calls Tryz.prog 15 #[l[k].2.val A' c', m[k].2.val C' d'] X fun e w' => e = .returned (.bool (l[k].2.same m[k].2)) ∧ Lay X.heap.size X w') := Lib.hid fun X hX =>
     qb3 _ _ _ _ _ _ X (HL.out _ (List.getElem_mem _)).2 (HM.out _ (List.getElem_mem _)).2 ((lift _ _ _ h8.r2).go hX.below hX.size) ((lift _ _ _ g8.r2).go hX.below hX.size)
    obtain ⟨q1, hq1⟩ : ∃ c, c = l[k].1.same m[k].1 := ⟨_, rfl⟩;obtain ⟨q2, hq2⟩ : ∃ c, c = l[k].2.same m[k].2 := ⟨_, rfl⟩;rw [← hq1] at C1;rw [← hq2] at C2;have HQ1 := Lib.hid hq1; clear hq1;have HQ2 := Lib.hid hq2; clear hq2;have hcell : ∀ n os o, (grow (wr.drewN n) os).cell? ⟨b, o, none⟩ = wr.cell? ⟨b, o, none⟩ := fun n os o => (Lay.of_grow (w := wr) n os).below.cell (by show b < _; omega);have hcell' : ∀ n os o, (grow (wr.drewN n) os).cell? ⟨b', o, none⟩ = wr.cell? ⟨b', o, none⟩ := fun n os o => (Lay.of_grow (w := wr) n os).below.cell (by show b' < _; omega);have p0 := fun n os => (hcell n os _).trans h8.c0;have p1 := fun n os => (hcell n os _).trans h8.c1;have p2 := fun n os => (hcell n os _).trans h8.c2;have p3 := fun n os => (hcell n os _).trans h8.c3;have p4 := fun n os => (hcell n os _).trans h8.c4;have p5 := fun n os => (hcell n os _).trans h8.c5
    have p6 := fun n os => (hcell n os _).trans h8.c6;have p7 := fun n os => (hcell n os _).trans h8.c7;have y0 := fun n os => (hcell' n os _).trans g8.c0;have y1 := fun n os => (hcell' n os _).trans g8.c1;have y2 := fun n os => (hcell' n os _).trans g8.c2;have y3 := fun n os => (hcell' n os _).trans g8.c3;have y4 := fun n os => (hcell' n os _).trans g8.c4;have y5 := fun n os => (hcell' n os _).trans g8.c5;have y6 := fun n os => (hcell' n os _).trans g8.c6;have y7 := fun n os => (hcell' n os _).trans g8.c7;obtain ⟨a0, a1, a2, a3, a4, a5, a6, a7, -, -⟩ := h8;obtain ⟨b0, b1, b2, b3, b4, b5, b6, b7, -, -⟩ := g8;clear lift hlp hmp hcell hcell';have HSS := Lib.hid hss; clear hss;simp only [Tm.val] at C1 C2
    cases q1 with
    | false =>
     have HE := Lib.hid (qem (l := l) (m := m) (fun e => by subst e; exact (Tm.same_false.1 HQ1.out.symm) rfl));go_wp2_with fail
     refine wp_region_quiet_grown (by assumption) (by kernel_rfl) (of_WQ ?_)
     iterate 13
      refine qfo (fun K hK => ?_);go_simp
      first
       | (refine hK _ ?_; clear hK K)
       | (apply Exists.intro
          refine ⟨fun _ => ?_, hK _ ?_⟩
          (go_at_call 15; with_reducible exact qai (C1.out _ (Lay.of_grow _ _)))
          clear hK K)
     iterate 12 (refine WQ_skip rfl ?_; simp only [Act.put, List.setIfInBounds_toArray, List.set_cons_succ, List.set_cons_zero])
     refine qfo (fun K hK => ?_);go_simp
     first
      | (refine hK _ ?_; clear hK K)
      | (apply Exists.intro
         refine ⟨fun _ => ?_, hK _ ?_⟩
         (fail)
         clear hK K)
     refine WQ_nil ?_;intro _ hw';obtain ⟨⟨nq, osq⟩, hw''⟩ := hw';subst hw'';go_wp2_with fail
     go_ret
     exact ⟨by rw [HE.out]; rfl, HLW.out.trans ((Lay.of_grow _ _).mono HSS.out)⟩
    | true =>
     cases q2 with
     | false =>
      have HE := Lib.hid (qem (l := l) (m := m) (fun e => by subst e; exact (Tm.same_false.1 HQ2.out.symm) rfl));go_wp2_with fail
      refine wp_region_quiet_grown (by assumption) (by kernel_rfl) (of_WQ ?_)
      iterate 11
       refine qfo (fun K hK => ?_);go_simp
       first
        | (refine hK _ ?_; clear hK K)
        | (apply Exists.intro
           refine ⟨fun _ => ?_, hK _ ?_⟩
           (go_at_call 15; with_reducible exact qai (C1.out _ (Lay.of_grow _ _)))
           clear hK K)
      iterate 15
       refine qfo (fun K hK => ?_);go_simp
       first
        | (refine hK _ ?_; clear hK K)
        | (apply Exists.intro
           refine ⟨fun _ => ?_, hK _ ?_⟩
           (go_at_call 15; with_reducible exact qai (C2.out _ (Lay.of_grow _ _)))
           clear hK K)
      refine WQ_nil ?_;intro _ hw';obtain ⟨⟨nq, osq⟩, hw''⟩ := hw';subst hw'';go_wp2_with fail
      go_ret
      exact ⟨by rw [HE.out]; rfl, HLW.out.trans ((Lay.of_grow _ _).mono HSS.out)⟩
     | true =>
      have HK : Hid (l[k] = m[k]) := Prod.ext (Tm.same_iff.1 HQ1.out.symm) (Tm.same_iff.1 HQ2.out.symm);go_wp2_with fail
      refine wp_region_quiet_grown (by assumption) (by kernel_rfl) (of_WQ ?_)
      iterate 11
       refine qfo (fun K hK => ?_);go_simp
       first
        | (refine hK _ ?_; clear hK K)
        | (apply Exists.intro
           refine ⟨fun _ => ?_, hK _ ?_⟩
           (go_at_call 15; with_reducible exact qai (C1.out _ (Lay.of_grow _ _)))
           clear hK K)
      iterate 15
       refine qfo (fun K hK => ?_);go_simp
       first
        | (refine hK _ ?_; clear hK K)
        | (apply Exists.intro
           refine ⟨fun _ => ?_, hK _ ?_⟩
           (go_at_call 15; with_reducible exact qai (C2.out _ (Lay.of_grow _ _)))
           clear hK K)
      refine WQ_nil ?_;intro _ hw';obtain ⟨⟨nq, osq⟩, hw''⟩ := hw';subst hw'';go_wp2_with fail
      go_roundw
      case rel => exact ⟨k + 1, by omega, by go_num, (by show l.take (k + 1) = m.take (k + 1); rw [List.take_succ_eq_append_getElem hlt, List.take_succ_eq_append_getElem hlt2, HT.out, HK.out]), HLW.out.trans ((Lay.of_grow _ _).mono HSS.out)⟩
      case measure => simp [intOf]; omega
   ·obtain rfl : k = l.length := by omega
    have e : l = m := by have h := HT.out; rwa [List.take_length, HNE.out, List.take_length] at h
    have HE : Hid (decide (l = m) = true) := decide_eq_true e;clear e;go_wp2_with fail
    go_ret
    exact ⟨by rw [HE.out]; rfl, HLW.out⟩
 ·have hnb : ((l.length : Int) != (m.length : Int)) = true := by simp; omega
  rw [qem (fun e => hne (by rw [e]))];go_enter Tryz.func14, Tryz.ntmps14
  go_wp2_with fail
  go_ret
  exact ⟨rfl, Lay.refl _ _⟩
def qX : Tm := .mk 1 ⟨#[120]⟩ 0 []
def qY : Tm := .mk 1 ⟨#[121]⟩ 0 []
def qN : Tm := .mk 1 ⟨#[121]⟩ 2 []
def qA : Tm := .mk 2 ⟨#[97]⟩ 0 []
def qB : Tm := .mk 2 ⟨#[98]⟩ 0 []
def qXn : Tm := .mk 1 ⟨#[120]⟩ 2 []
def qBk : Tm := .mk 2 ⟨#[98]⟩ 3 []
def qP : Tm := .mk 2 ⟨#[97]⟩ 2 []
def qQ : Tm := .mk 2 ⟨#[99]⟩ 2 []
def qFXY : Tm := .mk 3 ⟨#[102]⟩ 0 [qX, qY]
def qFYA : Tm := .mk 3 ⟨#[102]⟩ 0 [qY, qA]
def qFX : Tm := .mk 3 ⟨#[102]⟩ 0 [qX]
def qG : Tm := .mk 3 ⟨#[103]⟩ 0 []
def qdb : Tm := .mk 3 ⟨#[102]⟩ 0 [qP, qB, qP]
def qcs : Tm := .mk 3 ⟨#[102]⟩ 0 [qQ, qG, qQ]
def qG0 : Tm := .mk 1 ⟨#[103, 48]⟩ 2 []
def qG1 : Tm := .mk 1 ⟨#[103, 49]⟩ 0 []
def qFG : Tm := .mk 3 ⟨#[102]⟩ 0 [qG0, qG1, qG0]
def qS1 : List Bd := [(qX, qA), (qY, qA)]
def qS2 : List Bd := [(qY, qX)]
def qS3 : List Bd := [(qX, qN)]
theorem aw_v1 : qbd qFXY qFYA = 0 := by decide
theorem aw_v2 : qbd qX qY = 0 := by decide
theorem aw_v3 : qbd qX qN = 0 := by decide
theorem aw_v4 : qbd qXn qBk = 0 := by decide
theorem aw_v5 : qbd qX qFX = 0 := by decide
theorem aw_v6 : qbd qdb qcs = 0 := by decide
theorem aw_r1 : runU 10 [(qFXY, qFYA)] [] = some (0, [(qY, qX), (qX, qA)].map fun b => (b.1, b.2.put [(qX, qA)])) := by decide
theorem aw_r2 : runU 10 [(qX, qY)] [] = some (0, [(qY, qX)]) := by decide
theorem aw_r3 : runU 10 [(qX, qN)] [] = some (0, [(qX, qN)]) := by decide
theorem aw_r4 : runU 10 [(qXn, qBk)] [] = some (11, []) := by decide
theorem aw_r5 : runU 10 [(qX, qFX)] [] = some (12, []) := by decide
theorem aw_s1 : (qcy (0, [(qY, qX), (qX, qA)].map fun b => (b.1, b.2.put [(qX, qA)]))).1 = qS1 := by decide
theorem aw_s2 : (qcy (0, [(qY, qX)])).1 = qS2 := by decide
theorem aw_s3 : (qcy (0, [(qX, qN)])).1 = qS3 := by decide
theorem gname0 : qax 0 = ⟨#[103, 48]⟩ := by
 unfold qax; rw [Lib.decDigits_one (by decide)]; rfl
theorem gname1 : qax 1 = ⟨#[103, 49]⟩ := by
 unfold qax; rw [Lib.decDigits_one (by decide)]; rfl
theorem qgy : genR qdb qcs = (qFG, 0) := by
 have h : genE qdb qcs = .mk 3 ⟨#[102]⟩ 0 [.mk 1 (qax 0) 2 [], .mk 1 (qax 1) 0 [], .mk 1 (qax 0) 2 []] := by rfl
 unfold genR;rw [if_neg (by rw [aw_v6]; decide), h, gname0, gname1];rfl
theorem qdq : (qdr qdb qcs).length = 0 := by decide
theorem qfe (x : ByteArray) (so : Int) (w : World) :
  Calls Tryz.prog 33 #[.string x, .int .i64 so] w fun e w' => e = .returned ((Tm.mk 1 x so []).val none 0) ∧ Lay w.heap.size w w' := by
 simp only [Tm.val, Tm.kind, Tm.name, Tm.sort, Tm.kids];go_enter Tryz.func33, Tryz.ntmps33
 go_wp2_with fail
 refine bodyPost_ret (v := .agg #[.int .i64 1, .string x, .int .i64 so, .slice none 0 0]) ?_ rfl ?_
 ·simp [results, Tryz.results33, go_sem]
 exact ⟨rfl, (Lay.refl _ _).alloc (Nat.le_refl _) _⟩
theorem qmc {w : World} {P : Nat → Prop} {b : Nat} {T : TypeId} (its : List IB) (hB : w.heap[b]? = some (.cells (bCells its).toArray T (0, 0))) (hb : P b) (hr : ∀ x ∈ its, RepP w P x.1.1 x.1.2.1 x.1.2.2 ∧ RepP w P x.2.1 x.2.2.1 x.2.2.2) (hlen : its.length ≤ 1000) :
  RepB w P (its.map IB.bd) (some ⟨b, 0, none⟩) its.length := by
 refine ⟨by simp, by unfold maxLen; omega, .inr ⟨b, 0, rfl, hb, ?_⟩⟩;rw [← qfa];refine qao.of_its (bits its) b 0 (fun j u hj => ?_) (fun y hy => ?_)
 ·unfold World.cell?;rw [hB];unfold bCells;simpa using hj
 ·obtain ⟨x, hx, e⟩ := qf6 hy;rcases e with rfl | rfl
  ·exact (hr x hx).1
  ·exact (hr x hx).2
theorem qgf {Z Z1 : World} (its : List It) {T : TypeId} (h : Z1 = Z.alloc (.cells (itCells its).toArray T)) (hlen : its.length ≤ 1000) (hr : ∀ x ∈ its, RepT Z Z.heap.size x.1 x.2.1 x.2.2) :
  RepS Z1 (fun b => b < Z1.heap.size) (its.map (·.1)) (some ⟨Z.heap.size, 0, none⟩) its.length ∧ Below Z.heap.size Z Z1 := by
 have hb : Below Z.heap.size Z Z1 := by rw [h]; exact qaf (Nat.le_refl _) _
 refine ⟨qmb its (by rw [h]; exact heap_alloc_new _ _) (by rw [h]; simp) (fun x hx => (hr x hx).go hb hb.size) hlen, hb⟩
theorem qh3 {Z Z1 : World} (its : List IB) {T : TypeId} (h : Z1 = Z.alloc (.cells (bCells its).toArray T)) (hlen : its.length ≤ 1000) (hr : ∀ x ∈ its, RepT Z Z.heap.size x.1.1 x.1.2.1 x.1.2.2 ∧ RepT Z Z.heap.size x.2.1 x.2.2.1 x.2.2.2) :
  RepB Z1 (fun b => b < Z1.heap.size) (its.map IB.bd) (some ⟨Z.heap.size, 0, none⟩) its.length ∧ Below Z.heap.size Z Z1 := by
 have hb : Below Z.heap.size Z Z1 := by rw [h]; exact qaf (Nat.le_refl _) _
 refine ⟨qmc its (by rw [h]; exact heap_alloc_new _ _) (by rw [h]; simp) (fun x hx => ⟨(hr x hx).1.go hb hb.size, (hr x hx).2.go hb hb.size⟩) hlen, hb⟩
set_option maxHeartbeats 1000000 in
theorem qf9 (x : ByteArray) (w : World) (hx : x.size ≤ maxLen) :
  Calls Tryz.prog 35 #[.string x, .slice none 0 0] w fun e w' => ∃ A' c', e = .returned ((Tm.mk 3 x 0 []).val A' c') ∧ RepP w' (fun b => b < w'.heap.size) (.mk 3 x 0 []) A' c' ∧ Below w.heap.size w w' := by
 obtain ⟨V, hV⟩ : ∃ V, V = (w.alloc (.cells #[.int .i64 0, .string ⟨#[]⟩, .int .i64 0, .slice none 0 0] 24)).alloc (.cells #[] 24) := ⟨_, rfl⟩;have hb1 : Below w.heap.size w V := by rw [hV]; exact (qaf (Nat.le_refl _) _).alloc (by simp) _
 have hown : V.ownsRow (w.heap.size + 1) 24 4 (.slice (some ⟨w.heap.size + 1, 0, none⟩) 0 0) 0 [] := by
  have h := World.ownsRow_made (base := w.heap.size + 1) (e := 24) (size := 4) (w.alloc (.cells #[.int .i64 0, .string ⟨#[]⟩, .int .i64 0, .slice none 0 0] 24)) #[] 0 (by simp) (by simp [maxLen]) rfl;rw [World.size_alloc] at h;rw [hV];exact h
 have hap := fun ty => qd2 hown none 0 ty;have hbx : V.heap[w.heap.size]? = some (.cells #[.int .i64 0, .string ⟨#[]⟩, .int .i64 0, .slice none 0 0] 24 (0, 0)) := by
  rw [hV, Below.heap_alloc _ _ _ (by simp)]; exact heap_alloc_new _ _
 obtain ⟨r0, r1, r2, r3, rf⟩ := qad hbx;rw [hV] at hap r0 r1 r2 r3 rf;clear hV hb1 hbx hown;simp only [Tm.val, Tm.kind, Tm.name, Tm.sort, Tm.kids, List.length_nil];go_enter Tryz.func35, Tryz.ntmps35
 go_wp2_with (at_builtin; refine qak rfl _ _ rfl rfl rfl hap ?_)
 refine bodyPost_ret (v := .agg #[.int .i64 3, .string x, .int .i64 0, .slice (some ⟨w.heap.size + 1, 0, none⟩) 0 0]) ?_ rfl ?_
 ·simp [results, Tryz.results35, go_sem]
 refine ⟨some ⟨w.heap.size + 1, 0, none⟩, 0, rfl, ?_, ?_⟩
 ·rw [qa7];exact ⟨hx, Nat.le_refl _, Nat.zero_le _, .inl rfl⟩
 ·exact (qaf (Nat.le_refl _) _).alloc (by simp) _
inductive Fact where
 | box (B : Nat) (t : Tm) (A : Option Addr) (c : Nat)
 | term (t : Tm) (A : Option Addr) (c : Nat)
 | terms (l : List Tm) (A : Option Addr) (c : Nat)
 | binds (l : List Bd) (A : Option Addr) (c : Nat)
def Fact.holds (V : World) : Fact → Prop
 | .box B t A c => BoxT V B t A c
 | .term t A c => RepT V V.heap.size t A c
 | .terms l A c => RepS V (fun b => b < V.heap.size) l A c
 | .binds l A c => RepB V (fun b => b < V.heap.size) l A c
theorem Fact.below {V V' : World} (hb : Below V.heap.size V V') : ∀ f : Fact, f.holds V → f.holds V'
 | .box _ _ _ _, h => BoxT.below h hb
 | .term _ _ _, h => RepP.mono (fun b (hk : b < V.heap.size) => Nat.lt_of_lt_of_le hk hb.size) (fun _ hp => hb.cell hp) _ _ _ h
 | .terms _ _ _, h => RepS.mono (fun b (hk : b < V.heap.size) => Nat.lt_of_lt_of_le hk hb.size) (fun _ hp => hb.cell hp) h
 | .binds _ _ _, h => RepB.go h hb hb.size
def qac (w : World) : List Fact → World → Prop
 | [], V => Below w.heap.size w V
 | f :: r, V => f.holds V ∧ qac w r V
theorem qac.bel {w V : World} : ∀ {fs : List Fact}, qac w fs V → Below w.heap.size w V
 | [], h => h
 | _ :: _, h => qac.bel h.2
theorem qac.below {w V V' : World} (hb : Below V.heap.size V V') : ∀ {fs : List Fact}, qac w fs V → qac w fs V'
 | [], h => h.trans (hb.mono (Below.size h))
 | f :: _, h => ⟨f.below hb h.1, qac.below hb h.2⟩
theorem qac.add {w V : World} {fs : List Fact} (f : Fact) (h : qac w fs V) (hf : f.holds V) : qac w (f :: fs) V := ⟨hf, h⟩
theorem qac.boxed {w V : World} {fs : List Fact} (h : qac w fs V) {t : Tm} {A : Option Addr} {c : Nat} (hr : RepT V V.heap.size t A c) : qac w (.box V.heap.size t A c :: fs) (V.alloc (qbf t A c)) :=
 ⟨BoxT.new hr, h.below (qaf (Nat.le_refl _) _)⟩
theorem qac.slice {w V V1 : World} {fs : List Fact} (h : qac w fs V) (its : List It) {T : TypeId} (hV : V1 = V.alloc (.cells (itCells its).toArray T)) (hlen : its.length ≤ 1000) (hr : ∀ x ∈ its, RepT V V.heap.size x.1 x.2.1 x.2.2) :
  qac w (.terms (its.map (·.1)) (some ⟨V.heap.size, 0, none⟩) its.length :: fs) V1 :=
 ⟨(qgf its hV hlen hr).1, h.below (qgf its hV hlen hr).2⟩
theorem qac.bslice {w V V1 : World} {fs : List Fact} (h : qac w fs V) (its : List IB) {T : TypeId} (hV : V1 = V.alloc (.cells (bCells its).toArray T)) (hlen : its.length ≤ 1000) (hr : ∀ x ∈ its, RepT V V.heap.size x.1.1 x.1.2.1 x.1.2.2 ∧ RepT V V.heap.size x.2.1 x.2.2.1 x.2.2.2) :
  qac w (.binds (its.map IB.bd) (some ⟨V.heap.size, 0, none⟩) its.length :: fs) V1 :=
 ⟨(qh3 its hV hlen hr).1, h.below (qh3 its hV hlen hr).2⟩
theorem qac.boxes2 {w V : World} {fs : List Fact} (h : qac w fs V) {t1 t2 : Tm} {A1 A2 : Option Addr} {c1 c2 : Nat} (h1 : RepT V V.heap.size t1 A1 c1) (h2 : RepT V V.heap.size t2 A2 c2) :
  qac w (.box (V.heap.size + 1) t2 A2 c2 :: .box V.heap.size t1 A1 c1 :: fs) ((V.alloc (qbf t1 A1 c1)).alloc (qbf t2 A2 c2)) := by
 have k := (h.boxed h1).boxed (t := t2) (A := A2) (c := c2) (h2.go (qaf (Nat.le_refl _) _) (by simp));rw [World.size_alloc] at k;exact k
theorem qac.boxes3 {w V : World} {fs : List Fact} (h : qac w fs V) {t1 t2 t3 : Tm} {A1 A2 A3 : Option Addr} {c1 c2 c3 : Nat} (h1 : RepT V V.heap.size t1 A1 c1) (h2 : RepT V V.heap.size t2 A2 c2) (h3 : RepT V V.heap.size t3 A3 c3) :
  qac w (.box (V.heap.size + 1 + 1) t3 A3 c3 :: .box (V.heap.size + 1) t2 A2 c2 :: .box V.heap.size t1 A1 c1 :: fs) (((V.alloc (qbf t1 A1 c1)).alloc (qbf t2 A2 c2)).alloc (qbf t3 A3 c3)) := by
 have k := (h.boxes2 h1 h2).boxed (t := t3) (A := A3) (c := c3) ((h3.go (qaf (Nat.le_refl _) (qbf t1 A1 c1)) (by simp)).go (qaf (Nat.le_refl _) _) (by simp));rw [World.size_alloc, World.size_alloc] at k;exact k
theorem qac.rebase {w V : World} : ∀ {fs : List Fact}, qac w fs V → qac V fs V
 | [], _ => Below.refl _ _
 | _ :: _, h => ⟨h.1, qac.rebase h.2⟩
theorem qac.unbase {w D V : World} (hw : Below w.heap.size w D) : ∀ {fs : List Fact}, qac D fs V → qac w fs V
 | [], h => hw.trans (Below.mono h hw.size)
 | _ :: _, h => ⟨h.1, qac.unbase hw h.2⟩
theorem qau (V : World) (B : Nat) (k s : Int) (n : ByteArray) (h : n.size ≤ maxLen) : RepT V B (.mk k n s []) none 0 := by
 rw [qb2]; exact ⟨h, Nat.zero_le _, Nat.zero_le _, .inl rfl⟩
theorem aw_s4 : (qcy (11, [])).1 = [] := by decide
theorem aw_s5 : (qcy (12, [])).1 = [] := by decide
theorem qk9 : SizeB qS1 := fun b hb => by
 simp only [qS1, List.mem_cons, List.not_mem_nil, or_false] at hb;rcases hb with rfl | rfl <;> exact ⟨by decide, by decide⟩
theorem qk8 : SizeB qS2 := fun b hb => by
 simp only [qS2, List.mem_cons, List.not_mem_nil, or_false] at hb;subst hb; exact ⟨by decide, by decide⟩
theorem qk7 : SizeB qS3 := fun b hb => by
 simp only [qS3, List.mem_cons, List.not_mem_nil, or_false] at hb;subst hb; exact ⟨by decide, by decide⟩
theorem qmt {W : World} {B : Nat} {a b c d x y z u : Value} {T : TypeId} (h : W.heap[B]? = some (.cells #[a, b, c, d] T (0, 0))) :
  ((((W.setCell ⟨B, 0, none⟩ x).setCell ⟨B, 1, none⟩ y).setCell ⟨B, 2, none⟩ z).setCell ⟨B, 3, none⟩ u).heap[B]? = some (.cells #[x, y, z, u] T (0, 0)) := by
 simp [World.setCell, Array.getElem?_modify, h]
theorem qec {W : World} {B : Nat} {x y z u : Value} {q : Addr} (hq : q.block ≠ B) :
  ((((W.setCell ⟨B, 0, none⟩ x).setCell ⟨B, 1, none⟩ y).setCell ⟨B, 2, none⟩ z).setCell ⟨B, 3, none⟩ u).cell? q = W.cell? q := by
 have hne : ∀ o, (⟨B, o, none⟩ : Addr) ≠ q := fun o e => hq (by rw [← e]);rw [World.cell?_setCell_other _ _ _ _ (hne _), World.cell?_setCell_other _ _ _ _ (hne _), World.cell?_setCell_other _ _ _ _ (hne _), World.cell?_setCell_other _ _ _ _ (hne _)]
theorem qek {w : World} {bx b off : Nat} {k : Int} {T : TypeId} (hz : w.heap[bx]? = some (.cells #[.int .i64 0, .string ⟨#[]⟩, .int .i64 0, .slice none 0 0] T (0, 0))) (h : w.cell? ⟨b, off, none⟩ = some (.int .i64 k)) (hk : k ≠ 0) : b ≠ bx := by
 rintro rfl;unfold World.cell? at h;rw [hz] at h
 match off with
 | 0 => simp at h; omega
 | 1 => simp at h
 | 2 => simp at h; omega
 | 3 => simp at h
 | n + 4 => simp at h
theorem qdc {t : Tm} (h : t.check = 0) : t.kind ≠ 0 := by
 obtain ⟨k, n, s, l⟩ := t;rw [Tm.check] at h;show k ≠ 0
 split at h
 ·omega
 ·split at h
  ·omega
  ·omega
theorem qfm {t : Tm} {r : List Tm} (h : Tm.checks (t :: r) = 0) : t.check = 0 ∧ Tm.checks r = 0 := by
 rw [Tm.checks] at h
 split at h
 ·rename_i g; exact absurd h g
 ·rename_i g; exact ⟨Classical.byContradiction g, h⟩
mutual
theorem qfh {w : World} {P : Nat → Prop} {bx : Nat} {T : TypeId} (hz : w.heap[bx]? = some (.cells #[.int .i64 0, .string ⟨#[]⟩, .int .i64 0, .slice none 0 0] T (0, 0))) :
  ∀ (t : Tm) (A : Option Addr) (c : Nat), t.check = 0 → RepP w P t A c → RepP w (fun b => P b ∧ b ≠ bx) t A c
 | .mk k n s l, A, c, hc, h => by
  rw [qa7] at h ⊢;obtain ⟨h1, h2, h3, h4⟩ := h;refine ⟨h1, h2, h3, ?_⟩;rcases h4 with h4 | ⟨b, off, e, hb, hl⟩
  ·exact .inl h4
  ·by_cases h0 : l = []
   ·exact .inl h0
   ·have hck : Tm.checks l = 0 := by
     by_cases hk : k = 1 ∨ k = 2
     ·rw [Tm.check, if_pos hk] at hc
      split at hc
      ·omega
      ·rename_i g; exact absurd (Classical.byContradiction fun e => g (.inr (.inr e))) h0
     ·rw [Tm.check, if_neg hk] at hc
      split at hc
      ·split at hc
       ·omega
       ·split at hc
        ·omega
        ·split at hc
         ·omega
         ·exact hc
      ·omega
    refine .inr ⟨b, off, e, ⟨hb, ?_⟩, qdn hz l b off hck hl⟩
    cases l with
    | nil => exact absurd rfl h0
    | cons t r =>
     rw [qao] at hl;obtain ⟨⟨_, _, g0, _⟩, _⟩ := hl;exact qek hz g0 (qdc (qfm hck).1)
theorem qdn {w : World} {P : Nat → Prop} {bx : Nat} {T : TypeId} (hz : w.heap[bx]? = some (.cells #[.int .i64 0, .string ⟨#[]⟩, .int .i64 0, .slice none 0 0] T (0, 0))) :
  ∀ (l : List Tm) (b off : Nat), Tm.checks l = 0 → qao w P l b off → qao w (fun b => P b ∧ b ≠ bx) l b off
 | [], _, _, _, _ => by rw [qao]; trivial
 | t :: r, b, off, hc, h => by
  obtain ⟨c1, c2⟩ := qfm hc;rw [qao] at h ⊢;obtain ⟨⟨A, c, g0, g1, g2, g3, g4⟩, hr⟩ := h;exact ⟨⟨A, c, g0, g1, g2, g3, qfh hz t A c c1 g4⟩, qdn hz r b (off + 4) c2 hr⟩
end
theorem qfu : ∀ {l : List Bd}, (∀ b ∈ l, b.1.check = 0 ∧ b.2.check = 0) → Tm.checks (flat l) = 0
 | [], _ => rfl
 | b :: r, h => by
  obtain ⟨h1, h2⟩ := h b (List.mem_cons_self ..);rw [flat, Tm.checks, if_neg (by simpa using h1), Tm.checks, if_neg (by simpa using h2)];exact qfu fun c hc => h c (List.mem_cons_of_mem _ hc)
theorem qkg {w : World} {P : Nat → Prop} {bx : Nat} {T : TypeId} (hz : w.heap[bx]? = some (.cells #[.int .i64 0, .string ⟨#[]⟩, .int .i64 0, .slice none 0 0] T (0, 0))) {l : List Bd} (hl : ∀ b ∈ l, b.1.check = 0 ∧ b.2.check = 0) {A : Option Addr} {c : Nat}
  (h : RepB w P l A c) : RepB w (fun b => P b ∧ b ≠ bx) l A c := by
 obtain ⟨h1, h2, h3⟩ := h;refine ⟨h1, h2, ?_⟩;rcases h3 with h3 | ⟨b, off, e, hb, hlp⟩
 ·exact .inl h3
 ·cases l with
  | nil => exact .inl rfl
  | cons x r =>
   have hf := qfu hl;refine .inr ⟨b, off, e, ⟨hb, ?_⟩, qdn hz _ b off hf hlp⟩;rw [flat, qao] at hlp;obtain ⟨⟨_, _, g0, _⟩, _⟩ := hlp;exact qek hz g0 (qdc (hl x (List.mem_cons_self ..)).1)
def Fact.chk (bx : Nat) : Fact → Prop
 | .box B t _ _ => B ≠ bx ∧ t.check = 0
 | .term t _ _ => t.check = 0
 | .terms l _ _ => Tm.checks l = 0
 | .binds l _ _ => ∀ b ∈ l, b.1.check = 0 ∧ b.2.check = 0
def qej (bx : Nat) : List Fact → Prop
 | [] => True
 | f :: r => f.chk bx ∧ qej bx r
section
variable {V : World} {bx : Nat} {T : TypeId} {x y z u : Value}
theorem qdv : ((((V.setCell ⟨bx, 0, none⟩ x).setCell ⟨bx, 1, none⟩ y).setCell ⟨bx, 2, none⟩ z).setCell ⟨bx, 3, none⟩ u).heap.size = V.heap.size := by simp [World.setCell]
theorem Fact.put4 (hz : V.heap[bx]? = some (.cells #[.int .i64 0, .string ⟨#[]⟩, .int .i64 0, .slice none 0 0] T (0, 0))) :
  ∀ f : Fact, f.chk bx → f.holds V → f.holds ((((V.setCell ⟨bx, 0, none⟩ x).setCell ⟨bx, 1, none⟩ y).setCell ⟨bx, 2, none⟩ z).setCell ⟨bx, 3, none⟩ u)
 | .box B t A c, hc, h => by
  refine ⟨?_, ?_⟩
  ·iterate 4 rw [Below.heap_setCell _ _ _ _ hc.1]
   exact h.1
  ·exact RepP.mono (fun b ⟨h, _⟩ => by rw [qdv]; exact h) (fun q ⟨_, h⟩ => qec h) _ _ _ (qfh hz t A c hc.2 h.2)
 | .term t A c, hc, h => RepP.mono (fun b ⟨h, _⟩ => by rw [qdv]; exact h) (fun q ⟨_, h⟩ => qec h) _ _ _ (qfh hz t A c hc h)
 | .terms l A c, hc, h => by
  obtain ⟨h1, h2, h3⟩ := h;refine ⟨h1, h2, ?_⟩;rcases h3 with h3 | ⟨b, off, e, hb, hl⟩
  ·exact .inl h3
  ·cases l with
   | nil => exact .inl rfl
   | cons t r =>
    have hlp := hl;rw [qao] at hlp;obtain ⟨⟨_, _, g0, _⟩, _⟩ := hlp;exact .inr ⟨b, off, e, by rw [qdv]; exact hb, qao.mono (fun b ⟨h, _⟩ => by rw [qdv]; exact h) (fun q ⟨_, h⟩ => qec h) _ _ _ ⟨hb, qek hz g0 (qdc (qfm hc).1)⟩ (qdn hz _ b off hc hl)⟩
 | .binds l A c, hc, h => RepB.mono (fun b ⟨h, _⟩ => by rw [qdv]; exact h) (fun q ⟨_, h⟩ => qec h) (qkg hz hc h)
theorem qac.put4 {w : World} (hz : V.heap[bx]? = some (.cells #[.int .i64 0, .string ⟨#[]⟩, .int .i64 0, .slice none 0 0] T (0, 0))) (hb : w.heap.size ≤ bx) : ∀ {fs : List Fact}, qej bx fs → qac w fs V → qac w fs ((((V.setCell ⟨bx, 0, none⟩ x).setCell ⟨bx, 1, none⟩ y).setCell ⟨bx, 2, none⟩ z).setCell ⟨bx, 3, none⟩ u)
 | [], _, h => by
  iterate 4 refine Below.setCell ?_ (by exact hb) _
  exact h
 | f :: _, hc, h => ⟨f.put4 hz hc.1 h.1, qac.put4 hz hb hc.2 h.2⟩
end
theorem qac.stored {w V : World} {bx : Nat} {t : Tm} {A : Option Addr} {c : Nat} (hz : V.heap[bx]? = some (.cells #[.int .i64 0, .string ⟨#[]⟩, .int .i64 0, .slice none 0 0] 24 (0, 0))) (hb : w.heap.size ≤ bx) {fs : List Fact} (hc : qej bx fs) (h : qac w fs V) (ht : t.check = 0) (hr : RepT V V.heap.size t A c) :
  qac w (.box bx t A c :: fs) ((((V.setCell ⟨bx, 0, none⟩ (.int .i64 t.kind)).setCell ⟨bx, 1, none⟩ (.string t.name)).setCell ⟨bx, 2, none⟩ (.int .i64 t.sort)).setCell ⟨bx, 3, none⟩ (.slice A t.kids.length c)) :=
 ⟨⟨qmt hz, Fact.put4 hz (.term t A c) ht hr⟩, qac.put4 hz hb hc h⟩
end Go.Proofs.YtpjmdilpldaapaaGreatDoor
