/- Uasc, Usolve, Ursol, Uunify, Uruni, Uterm0, UsameB (joined by shake.py). -/
import Derived.Test.YtpjmdilpldaapaaGreatDoorS6
import Derived.Test.YtpjmdilpldaapaaGreatDoorS11
import Derived.Test.YtpjmdilpldaapaaGreatDoorS12
import Derived.Test.YtpjmdilpldaapaaGreatDoorS16
import Derived.Test.YtpjmdilpldaapaaGreatDoorS17
set_option maxRecDepth 100000
namespace Go.Proofs.YtpjmdilpldaapaaGreatDoor
open Go.RowKit Go.Sort
set_option maxHeartbeats 2000000 in
theorem qnn (a b : Bd) (A A' B B' : Option Addr) (c c' d d' : Nat) (w : World) (ha : a.1.size ≤ 1000000) (hb : b.1.size ≤ 1000000) (hra : RepT w w.heap.size a.1 A c) (hrb : RepT w w.heap.size b.1 B d) :
  Calls Tryz.prog 88 #[bval a A c A' c', bval b B d B' d'] w fun e w' => e = .returned (.int .i64 (a.1.cmp b.1)) ∧ Lay w.heap.size w w' := by
 obtain ⟨V, hV⟩ : ∃ V, V = (w.alloc (.cells (qev a A c A' c') 48)).alloc (.cells (qev b B d B' d') 48) := ⟨_, rfl⟩;have hl : Lay w.heap.size w V := by rw [hV]; exact ((Lay.refl _ _).alloc (Nat.le_refl _) _).alloc (by simp) _
 have CM : Hid (∀ Z, Lay w.heap.size w Z → Calls Tryz.prog 75 #[a.1.val A c, b.1.val B d] Z fun e w' => e = .returned (.int .i64 (a.1.cmp b.1)) ∧ Lay Z.heap.size Z w') := Lib.hid fun Z h => qdd 1000000 a.1 b.1 A B c d Z ha (by omega) hb (hra.go h.below h.size) (hrb.go h.below h.size);have HL := Lib.hid hl; clear hl;simp only [qev] at hV;have HV := Lib.hid hV; clear hV;have CON := Lib.hid (CM.out V HL.out); clear CM;simp only [Tm.val] at CON;simp only [bval, qev];go_enter Tryz.func88, Tryz.ntmps88
 go_wp2_with fail
 rw [← HV.out];refine CON.out.mono ?_;rintro e w1 ⟨rfl, hl1⟩;have HL1 := Lib.hid (HL.out.trans (hl1.mono HL.out.size)); clear hl1;go_wp2_with fail
 go_ret
 exact ⟨rfl, HL1.out⟩
theorem usort_any (w : World) (base g cap n : Nat) (F : Nat → Prop) (its : List IB) (hn : n = its.length) (hpos : 0 < n) (hn2 : n ≤ 10000000) (hrow : RowB w base F (.slice (some ⟨g, 0, none⟩) n cap) its) (hsz : ∀ x ∈ its, x.1.1.size ≤ 1000000) :
  Calls Tryz.prog 87 #[.slice (some ⟨g, 0, none⟩) n cap, .func (.func 88) #[] #[]] w (SortedIB w base g n cap F its) := by
 subst hn;have hgood : ∀ x ∈ its, GoodIB w g x := fun x hx => ⟨RepP.mono (fun b ⟨_, h2, h3⟩ => ⟨h2, fun e => h3 (by rw [e]; rfl)⟩) (fun _ _ => rfl) _ _ _ (hrow.reps x hx).1, hsz x hx⟩;obtain ⟨x0, hx0⟩ : ∃ x, x ∈ its := ⟨its[0], List.getElem_mem hpos⟩
 letI : Inhabited (GIB w g) := ⟨⟨x0, hgood x0 hx0⟩⟩
 obtain ⟨d, hd⟩ : ∃ d : Array (GIB w g), d.toList.map (·.1) = its := ⟨(its.attach.map fun x => ⟨x.1, hgood x.1 x.2⟩).toArray, by simp only [List.map_map, Function.comp_def]; exact List.attach_map_subtype_val its⟩;have hds : d.size = its.length := by rw [← hd]; simp
 rcases hrow.own.2 with ⟨hv, _⟩ | ⟨g', cap', cur, hv, hbase, hb, hnc, hcm, hcs, ht⟩
 ·cases hv
 injection hv with h1 h2 h3;injection h1 with h1;injection h1 with h1;subst h1 h3;have hgl : g < w.heap.size := (Array.getElem?_eq_some_iff.1 hb).1;have hflat : (flatK (qdg w g) 8 d).toList = bCells its := by rw [ql1, hd]
 have hfs : (flatK (qdg w g) 8 d).size = its.length * 8 := by simp [hds]
 have hH : HoldsK (qdg w g) 8 w g 0 d := by
  intro j hj;rw [size_flatK] at hj;refine ⟨?_, by simp [World.frozen?, hb]⟩;have h1 : (cur.toList.take (its.length * 8))[j]? = (bCells its)[j]? := by rw [ht]
  rw [List.getElem?_take_of_lt (by omega), Array.getElem?_toList] at h1;simp only [World.cell?, hb, Nat.zero_add, Option.isSome_none, Bool.false_eq_true, if_false];rw [h1, ← hflat, Array.getElem?_toList, Array.getElem?_eq_getElem (by simpa using hj), getElem!_pos _ j (by simpa using hj)];rfl
 have hcmp : CmpLays Tryz.prog 88 #[] (qdg w g) 8 (qk6 w g) g 0 d.size w := by
  intro m os dk hdk x y;have hW : ∀ p : Addr, p.block < w.heap.size → p.block ≠ g → (sortWorldK (qdg w g) 8 w g 0 m dk os).cell? p = w.cell? p := fun p hp hne => by
   unfold sortWorldK;rw [cell?_grow _ _ _ (by rw [size_putRowK]; exact hp), cell?_putRowK_other _ _ _ _ _ _ _ hne]; rfl
  have hS := size_sortWorldK_c (qdg w g) 8 w g 0 m dk os;have hr : ∀ z : GIB w g, RepT (sortWorldK (qdg w g) 8 w g 0 m dk os) (sortWorldK (qdg w g) 8 w g 0 m dk os).heap.size z.1.1.1 z.1.1.2.1 z.1.1.2.2 := fun z =>
   RepP.mono (fun b ⟨h1, _⟩ => by omega) (fun p ⟨h1, h2⟩ => hW p h1 h2) _ _ _ z.2.1
  refine (qnn x.1.bd y.1.bd x.1.1.2.1 x.1.2.2.1 y.1.1.2.1 y.1.2.2.1 x.1.1.2.2 x.1.2.2.2 y.1.1.2.2 y.1.2.2.2 _ x.2.2 y.2.2 (hr x) (hr y)).mono ?_;rintro e w' ⟨he, hl⟩;exact ⟨he, hl.grow⟩
 have eg : ∀ args w, (callFunc 88 args).run Tryz.prog w = .ok (.enter 88 args) w := enters_of Tryz.func88 (by kernel_rfl) rfl;have hcon := AnyQ.slices_SortFunc Tryz.sortBind 8 Tryz.isAgg48 Tryz.sizeOf48 (qdg w g) (fun x => by unfold qdg; rw [qa7]; rfl) (fun x v hv => qdu [x.1] v hv) (qk6 w g) swo_cmpIB 88 #[] g 0 cap d w eg hcmp hH hgl (by omega);rw [hds] at hcon;refine Calls.mono hcon ?_;rintro e w' ⟨he, d', m, os, hperm, hsort, rfl⟩;have hs' : d'.size = its.length := hperm.1.trans hds;have hlen' : (d'.toList.map (·.1)).length = its.length := by simpa using hs'
 refine ⟨he, d'.toList.map (·.1), ?_, ?_, ⟨?_, ?_⟩, qcu _⟩
 ·have h := hperm.2.2;rw [← hds, show d'.extract 0 d.size = d' by rw [hds, ← hs']; simp, show d.extract 0 d.size = d by simp] at h;rw [← hd]; exact h.map _
 ·intro i j hij hj;have hj' : j < its.length := by rw [hlen'] at hj; exact hj
  have h := hsort i j (Nat.zero_le _) hij hj';unfold ltOf qk6 at h;rw [decide_eq_false_iff_not] at h;rw [getElem!_pos d' j (by omega), getElem!_pos d' i (by omega)] at h;have hneg := Tm.cmp_neg d'[i].1.1.1 d'[j].1.1.1;simp only [List.getElem_map, Array.getElem_toList];omega
 ·have hf' : (flatK (qdg w g) 8 d').toList = bCells (d'.toList.map (·.1)) := ql1 d';have hfs' : (flatK (qdg w g) 8 d').size = its.length * 8 := by simp [hs']
  refine ⟨by rw [qa7], .inr ⟨g, cap, _, by rw [hlen'], hbase, qg8 _ hb, by rw [hlen']; exact hnc, hcm, by simp [putCells, hcs], ?_⟩⟩;rw [hlen', ← hfs', qe8 _ _ (by rw [hfs', hcs]; exact Nat.mul_le_mul_right _ hnc), hf']
 ·intro x hx;have hmem : x ∈ its := by
   have h := hperm.2.2;rw [← hds, show d'.extract 0 d.size = d' by rw [hds, ← hs']; simp, show d.extract 0 d.size = d by simp] at h;rw [← hd]; exact (h.map _).mem_iff.1 hx
  have hg := qcu (w := w) (g := g) (n := m) (os := os) (flatK (qdg w g) 8 d');have key : ∀ (t : Tm) A c, RepP w (fun b => F b ∧ b < w.heap.size ∧ (Value.slice (some ⟨g, 0, none⟩) its.length cap).ownBlock ≠ some b) t A c → RepP (grow (putRow id (Sort.ahead w m) g 0 (flatK (qdg w g) 8 d')) os) (fun b => F b ∧ b < (grow (putRow id (Sort.ahead w m) g 0 (flatK (qdg w g) 8 d')) os).heap.size ∧ (Value.slice (some ⟨g, 0, none⟩) its.length cap).ownBlock ≠ some b) t A c := fun t A c hr => by
   refine RepP.mono ?_ ?_ _ _ _ hr
   ·rintro b ⟨h1, h2, h3⟩; exact ⟨h1, Nat.lt_of_lt_of_le h2 hg.size, h3⟩
   ·rintro p ⟨h1, h2, h3⟩;exact World.cell?_of_block (hg.block p.block h2 (fun e => h3 (by rw [show g = p.block from by injection e with e; exact e.symm]; rfl)))
  exact ⟨key _ _ _ (hrow.reps x hmem).1, key _ _ _ (hrow.reps x hmem).2⟩
theorem usort_row (w : World) (base : Nat) (F : Nat → Prop) (A : Option Addr) (cap n : Nat) (its : List IB) (hn : n = its.length) (hn2 : n ≤ 10000000) (hrow : RowB w base F (.slice A n cap) its) (hsz : ∀ x ∈ its, x.1.1.size ≤ 1000000) :
  Calls Tryz.prog 87 #[.slice A n cap, .func (.func 88) #[] #[]] w (fun e w' => e = .returned (.tuple #[]) ∧ ∃ its', its'.Perm its ∧ (its'.map IB.bd).Pairwise LeB ∧
   RowB w' base F (.slice A n cap) its' ∧ w.grownBy w' (Value.slice A n cap).ownBlock) := by
 by_cases h0 : its = []
 ·subst h0;subst hn;have hS := (AnyF.slices_SortFunc_none (P := Tryz.prog) Tryz.sortBind A cap (.func (.func 88) #[] #[]) w);refine hS.mono ?_;rintro e w' ⟨rfl, rfl⟩;exact ⟨rfl, [], List.Perm.refl _, List.Pairwise.nil, hrow, grown_lay (Lay.refl _ _) _⟩
 ·have hpos : 0 < its.length := List.length_pos_iff.2 h0;rcases hrow.own.2 with ⟨_, h⟩ | ⟨g, cap', cur, hv, _⟩
  ·omega
  injection hv with h1 h2 h3;subst h1;refine (usort_any w base g cap n F its hn (by omega) hn2 hrow hsz).mono ?_;rintro e w' ⟨rfl, its', hp, hs, hr, hg⟩;refine ⟨rfl, its', hp, ?_, hr, hg⟩;rw [List.pairwise_iff_getElem];intro i j hi hj hij;simp only [List.length_map] at hi hj;have := hs i j hij hj;simpa [LeB, IB.bd] using this
def AscU (v : Value) (base : Nat) (F : Nat → Prop) (bs : List Bd) (w : World) (e : Ending) (w' : World) : Prop :=
 e = .returned v ∧ ∃ its', its'.map IB.bd = qdf bs ∧ RowB w' base F v its' ∧ w.grownBy w' v.ownBlock
set_option maxHeartbeats 2000000 in
theorem qiy (w : World) (base : Nat) (F : Nat → Prop) (A : Option Addr) (cap n : Nat) (its : List IB) (hn : n = its.length) (hn2 : n ≤ 10000000) (hrow : RowB w base F (.slice A n cap) its) (hsz : ∀ x ∈ its, x.1.1.size ≤ 1000000) (hv : qcm (its.map IB.bd)) :
  Calls Tryz.prog 62 #[.slice A n cap] w (AscU (.slice A n cap) base F (its.map IB.bd) w) := by
 subst hn;have SO := Lib.hid (usort_row w base F A cap its.length its rfl hn2 hrow hsz);go_enter Tryz.func62, Tryz.ntmps62
 go_wp2_with fail
 refine SO.out.mono ?_; clear SO;rintro e w5 ⟨rfl, its', hp, hs, hrow', hg⟩;have hbd := sorted_is (hp.map IB.bd) hs hv;have HRW := Lib.hid hrow'; clear hrow';have HG := Lib.hid hg; clear hg hs hp;have HBD := Lib.hid hbd; clear hbd;go_wp2_with fail
 go_ret
 exact ⟨rfl, its', HBD.out, HRW.out, HG.out⟩
theorem qlw {p : Nat → Prop} : ∀ n, p n → ∃ n, p n ∧ ∀ m, p m → n ≤ m := by
 intro n
 induction n using Nat.strongRecOn with
 | _ n ih =>
  intro h;by_cases h2 : ∃ m, m < n ∧ p m
  ·obtain ⟨m, hm, hp⟩ := h2;exact ih m hm hp
  ·exact ⟨n, h, fun m hm => Classical.byContradiction fun e => h2 ⟨m, by omega, hm⟩⟩
theorem least_fun (p : World → Nat → Prop) : ∃ μ : World → Nat, ∀ w n, p w n → p w (μ w) ∧ μ w ≤ n := by
 refine ⟨fun w => Classical.epsilon fun n => p w n ∧ ∀ m, p w m → n ≤ m, fun w n h => ?_⟩;have := Classical.epsilon_spec (qlw (p := p w) n h);exact ⟨this.1, this.2 n h⟩
theorem run_nil {n : Nat} {bs : List Bd} {r : Int × List Bd} (h : runU n [] bs = some r) : qjn [] bs = true ∧ r = (0, bs) := by
 cases n with
 | zero => rw [runU] at h; cases h
 | succ n =>
  rw [runU] at h
  split at h
  ·rename_i hg; exact ⟨hg, (Option.some.inj h).symm⟩
  ·cases h
theorem qln {n : Nat} {p : Bd} {ps bs : List Bd} {r : Int × List Bd} (h : runU n (p :: ps) bs = some r) : qjn (p :: ps) bs = true ∧
  (((qa3 p.1 p.2 ps bs).1 ≠ 0 ∧ r = ((qa3 p.1 p.2 ps bs).1, [])) ∨ ((qa3 p.1 p.2 ps bs).1 = 0 ∧ ∃ m, m < n ∧ runU m (qa3 p.1 p.2 ps bs).2.1 (qa3 p.1 p.2 ps bs).2.2 = some r)) := by
 cases n with
 | zero => rw [runU] at h; cases h
 | succ n =>
  rw [runU] at h
  split at h
  ·rename_i hg
   refine ⟨hg, ?_⟩
   split at h
   ·rename_i he; exact .inl ⟨he, (Option.some.inj h).symm⟩
   ·rename_i he; exact .inr ⟨by simpa using he, n, by omega, h⟩
  ·cases h
def qb2 (r : Int × List Bd) (w : World) (e : Ending) (w' : World) : Prop :=
 ∃ A c, e = .returned (.tuple #[.slice A (qcb r).1.length c, .int .i64 r.1]) ∧ RepB w' (fun b => b < w'.heap.size) (qcb r).1 A c ∧ Below w.heap.size w w'
theorem qdr {w w' : World} {n : Int} (hn : n ≠ 0) (h : Below w.heap.size w w') : qb2 (n, []) w (.returned (.tuple #[.slice none 0 0, .int .i64 n])) w' := by
 have e : (qcb (n, ([] : List Bd))).1 = [] := by simp [qcb, hn]
 refine ⟨none, 0, by rw [e]; rfl, by rw [e]; exact ⟨Nat.le_refl _, by simp [maxLen], .inl rfl⟩, h⟩
set_option maxHeartbeats 2000000 in
theorem solve_any (n0 : Nat) (ps0 : List Bd) (r : Int × List Bd) (A : Option Addr) (c : Nat) (w : World) (hr : RepB w (fun b => b < w.heap.size) ps0 A c) (hrun : runU n0 ps0 [] = some r) :
  Calls Tryz.prog 38 #[.slice A ps0.length c] w (qb2 r w) := by
 have hVA : r.1 = 0 → qcm r.2 := fun h => by
  obtain ⟨e, s⟩ := r;have h : e = 0 := h;subst h;exact (qjc hrun ⟨List.Pairwise.nil, by simp⟩).2.1
 obtain ⟨W1, hW1⟩ : ∃ W1, W1 = w.alloc (.cells #[.slice A ps0.length c, .slice none 0 0] 85) := ⟨_, rfl⟩;have hb1 : Below w.heap.size w W1 := by rw [hW1]; exact qah (Nat.le_refl _) _
 have hs1 : w.heap.size < W1.heap.size := by rw [hW1]; simp
 have hc1 : W1.heap[w.heap.size]? = some (.cells #[.slice A ps0.length c, .slice none 0 0] 85 (0, 0)) := by rw [hW1]; exact heap_alloc_new _ _
 obtain ⟨xb, hxb⟩ : ∃ xb, xb = w.heap.size := ⟨_, rfl⟩;have hst : StU xb ps0 [] W1 := by
  rw [hxb];refine ⟨A, c, none, 0, [], hc1, RepB.mono (fun b h => ⟨Nat.ne_of_lt h, Nat.lt_trans h hs1, fun e => by cases e⟩) (fun p hp => hb1.cell hp) hr, RowG.nil _ _ _ _, rfl⟩
 obtain ⟨μ, hμ⟩ := least_fun fun wr n => ∃ ps bs, StU xb ps bs wr ∧ runU n ps bs = some r;have HST := Lib.hid hst; clear hst;have HB1 := Lib.hid hb1; clear hb1;have HW1 := Lib.hid hW1; clear hW1 hc1;have HMU := Lib.hid hμ; clear hμ;have HRUN := Lib.hid hrun; clear hrun;have HVA := Lib.hid hVA; clear hVA;have HXB := Lib.hid hxb; clear hxb hr;go_enter Tryz.func38, Tryz.ntmps38
 go_wp2_with fail
 rw [← HW1.out, ← HXB.out];go_loopw [5] (fun _ wr => ∃ (n : Nat) (ps bs : List Bd), Hid (StU xb ps bs wr) ∧ Hid (runU n ps bs = some r) ∧ Hid (Below xb w wr)) (fun _ wr => μ wr)
 case atStart => exact ⟨n0, ps0, [], HST.out, HRUN.out, by rw [HXB.out]; exact HB1.out⟩
 case round =>
  obtain ⟨n, ps, bs, HS1, HR1, HBW⟩ := hrel;obtain ⟨hle, -⟩ : (∃ ps bs, StU xb ps bs wr ∧ runU (μ wr) ps bs = some r) ∧ _ := HMU.out wr n ⟨ps, bs, HS1.out, HR1.out⟩;clear HS1 HR1;obtain ⟨ps, bs, hS1, hR1⟩ := hle;obtain ⟨PA, Pc, BA, Bc, its, hS⟩ := hS1;have hx := (Array.getElem?_eq_some_iff.1 hS.cell).1;obtain ⟨x0, x1, xf⟩ := qcv hS.cell
  cases ps with
  | nil =>
   obtain ⟨hg, hr9⟩ := run_nil hR1;subst hr9;obtain ⟨-, hbl, -, hbs⟩ := qc2.1 hg;have hil : its.length = bs.length := by rw [← hS.is, List.length_map]
   have hsz : ∀ x ∈ its, x.1.1.size ≤ 1000000 := fun x hx => by
    have hm : x.bd ∈ bs := by rw [← hS.is]; exact List.mem_map_of_mem hx
    have h := qak (hbs _ hm).1;have h : x.1.1.size ≤ 400 := h;omega
   have hva : qcm (its.map IB.bd) := by rw [hS.is]; exact HVA.out rfl
   have AS := Lib.hid (qiy wr (xb + 1) (fun b => b ≠ xb) BA Bc its.length its rfl (by omega) hS.row.bindB hsz hva);have HS := Lib.hid hS; clear hS hsz hva hbs hR1;have HIL := Lib.hid hil; clear hil hbl hg;go_wp2_with fail
   refine AS.out.mono ?_; clear AS x0 x1 xf;rintro e w5 ⟨rfl, its', hbd, hrow', hg'⟩;have HBD := Lib.hid hbd; clear hbd;have HRW := Lib.hid hrow'; clear hrow';have HG := Lib.hid hg'; clear hg';go_wp2_with fail
   go_ret2
   have hb5 : Below xb w w5 := HBW.out.grown HG.out (by omega) (fun j e => by have := (HS.out.row.lt _ e).1; omega);rw [HXB.out] at hb5;obtain ⟨A9, c9, hv9, hrb⟩ := HRW.out.toB (P := fun b => b < w5.heap.size) (fun b _ h => h) (fun b _ h => h);injection hv9 with g1 g2 g3;subst g1 g3;have e1 : (qcb ((0 : Int), bs)).1 = qdf bs := by simp [qcb]
   have e2 : (qdf bs).length = its.length := by rw [(qcq _).length_eq, HIL.out]
   rw [HBD.out, HS.out.is] at hrb;exact ⟨BA, Bc, by rw [e1, e2]; rfl, by rw [e1]; exact hrb, hb5⟩
  | cons p ps =>
   obtain ⟨hg, hcase⟩ := qln hR1;have ST := step_any xb p ps bs PA Pc BA Bc its wr hS hg;have hgl := (qc2.1 hg).1;have i1 : (0 : Int) < ((p :: ps).length : Int) := by simp
   obtain ⟨q, hq⟩ : ∃ q, q = qa3 p.1 p.2 ps bs := ⟨_, rfl⟩;rw [← hq] at hcase ST;clear hq;obtain ⟨q1, q2, q3⟩ := q;have ST := Lib.hid ST;have HCASE := Lib.hid hcase; clear hcase hR1;have HS := Lib.hid hS; clear hS hg;go_wp2_with fail
   refine ST.out.mono ?_; clear ST x0 x1 xf;rintro e w5 ⟨rfl, hst5, hb5⟩;have HB5 := Lib.hid (HBW.out.trans hb5); clear hb5;have HST5 := Lib.hid hst5; clear hst5;rcases eq_facts q1 0 with ⟨h0, e0, n0'⟩ | ⟨h0, e0, n0'⟩
   ·rcases HCASE.out with ⟨h, -⟩ | ⟨-, m, hm, hrun⟩
    ·exact absurd h0 h
    have hS5 : StU xb q2 q3 w5 := HST5.out h0;have hm5 := (HMU.out w5 m ⟨q2, q3, hS5, hrun⟩).2;have HS5 := Lib.hid hS5; clear hS5;have HR5 := Lib.hid hrun; clear hrun HCASE;subst h0;go_wp2_with fail
    go_roundw
    case rel => exact ⟨m, q2, q3, HS5.out, HR5.out, HB5.out⟩
    case measure => omega
   ·rcases HCASE.out with ⟨-, h⟩ | ⟨h, -⟩
    ·subst h;clear HCASE HMU HRUN HVA;go_wp2_with fail
     go_ret2
     have hb5 := HB5.out;rw [HXB.out] at hb5;exact qdr h0 hb5
    ·exact absurd h h0
theorem qm7 {α : Type} (p : α → Nat → Prop) : ∃ μ : α → Nat, ∀ w n, p w n → p w (μ w) ∧ μ w ≤ n := by
 refine ⟨fun w => Classical.epsilon fun n => p w n ∧ ∀ m, p w m → n ≤ m, fun w n h => ?_⟩;have := Classical.epsilon_spec (qlw (p := p w) n h);exact ⟨this.1, this.2 n h⟩
structure StR (ps bs : List Bd) (PA : Option Addr) (Pc : Nat) (SA : Option Addr) (Sc : Nat) (w : World) : Prop where
 pairs : RepB w (fun b => b < w.heap.size) ps PA Pc
 binds : RepB w (fun b => b < w.heap.size) (qdf bs) SA Sc
theorem StR.binds_go {ps bs : List Bd} {PA : Option Addr} {Pc : Nat} {SA : Option Addr} {Sc : Nat} {w w' : World} (h : StR ps bs PA Pc SA Sc w) (hb : Below w.heap.size w w') : RepB w' (fun b => b < w'.heap.size) (qdf bs) SA Sc :=
 RepB.mono (fun b (hk : b < w.heap.size) => Nat.lt_of_lt_of_le hk hb.size) (fun _ hp => hb.cell hp) h.binds
structure AtS (w : World) (bx by' : Nat) (o1 o2 : Obj) (Z : World) : Prop where
 bel : Below w.heap.size w Z
 one : Z.heap[bx]? = some o1
 two : Z.heap[by']? = some o2
theorem AtS.go {w Z Z' : World} {bx by' : Nat} {o1 o2 : Obj} (h : AtS w bx by' o1 o2 Z) (hb : Below Z.heap.size Z Z') : AtS w bx by' o1 o2 Z' :=
 ⟨qac h.bel hb h.bel.size, (hb.block _ (Array.getElem?_eq_some_iff.1 h.one).1).trans h.one, (hb.block _ (Array.getElem?_eq_some_iff.1 h.two).1).trans h.two⟩
theorem qmr (x t : Tm) (ps bs : List Bd) : qbn x t ps (qdf bs) = qbn x t ps bs := by
 unfold qbn
 congr 1
 rw [Bool.eq_iff_iff, List.all_eq_true, List.all_eq_true];exact ⟨fun h b hb => h b (by
  obtain ⟨q, hq, rfl⟩ := List.mem_map.1 hb;exact List.mem_map_of_mem ((qcq bs).mem_iff.2 hq)), fun h b hb => h b (by
  obtain ⟨q, hq, rfl⟩ := List.mem_map.1 hb;exact List.mem_map_of_mem ((qcq bs).mem_iff.1 hq))⟩
theorem ins_sort (x t : Tm) (bs : List Bd) : insB (x, t) ((qdf bs).map (putB x t)) = qdf (bs.map (putB x t) ++ [(x, t)]) := by
 rw [qmi, sortS_map (f := putB x t) (fun _ => rfl)]
theorem qmh {a b : Tm} {ps bs : List Bd} (h : a ≠ b) (h2 : qbb a b = true) : qa3 a b ps bs = (0, a.kids.zip b.kids ++ ps, bs) := by
 unfold qa3; rw [if_neg h, if_pos h2]
theorem step_err {a b : Tm} {ps bs : List Bd} (h : a ≠ b) (h2 : qbb a b = false) (h3 : (qan a b).2.2 ≠ 0) : (qa3 a b ps bs).1 = (qan a b).2.2 := by
 unfold qa3; rw [if_neg h, if_neg (by rw [h2]; decide), if_pos h3]
theorem step_bind {a b x t : Tm} {ps bs : List Bd} (h : a ≠ b) (h2 : qbb a b = false) (h3 : (qan a b).2.2 = 0) (hx : (qan a b).1 = x) (ht : (qan a b).2.1 = t) :
  qa3 a b ps bs = (if qbn x t ps bs = true then 0 else 3, ps.map (putP x t), bs.map (putB x t) ++ [(x, t)]) := by
 unfold qa3; rw [if_neg h, if_neg (by rw [h2]; decide), if_neg (by simpa using h3), hx, ht]
set_option maxHeartbeats 8000000 in
theorem qmn (n0 : Nat) (ps0 : List Bd) (r : Int × List Bd) (PA : Option Addr) (Pc : Nat) (w : World) (hr : RepB w (fun b => b < w.heap.size) ps0 PA Pc) (hrun : runU n0 ps0 [] = some r) :
  Calls Tryz.prog 40 #[.slice PA ps0.length Pc] w (qb2 r w) := by
 have mixed : Tryz.prog.follows .mixedOrders = true := by kernel_rfl
 obtain ⟨μ, hμ⟩ := qm7 (α := Value × Value × World) fun z n => ∃ ps bs PA Pc SA Sc, z.1 = .slice PA ps.length Pc ∧ z.2.1 = .slice SA bs.length Sc ∧ StR ps bs PA Pc SA Sc z.2.2 ∧ runU n ps bs = some r;have HMU := Lib.hid hμ; clear hμ;have HST : Hid (StR ps0 [] PA Pc none 0 w) := ⟨hr, by rw [show qdf [] = [] from rfl]; exact ⟨Nat.le_refl _, by simp [maxLen], .inl rfl⟩⟩;have HRUN := Lib.hid hrun; clear hrun hr;go_enter Tryz.func40, Tryz.ntmps40
 go_wp2_with fail
 go_loopw [0, 4] (fun pv sv wr => ∃ (n : Nat) (ps bs : List Bd) (PA : Option Addr) (Pc : Nat) (SA : Option Addr) (Sc : Nat), pv = .slice PA ps.length Pc ∧ sv = .slice SA bs.length Sc ∧ Hid (StR ps bs PA Pc SA Sc wr) ∧ Hid (runU n ps bs = some r) ∧ Hid (Below w.heap.size w wr)) (fun pv sv wr => μ (pv, sv, wr))
 case atStart => exact ⟨n0, ps0, [], PA, Pc, none, 0, rfl, rfl, HST.out, HRUN.out, Below.refl _ _⟩
 case round =>
  clear HST HRUN;generalize wr = wo at *;obtain ⟨n, ps1, bs1, PA1, Pc1, SA1, Sc1, rfl, rfl, HS1, HR1, HBW⟩ := hrel;obtain ⟨hle, -⟩ := HMU.out (.slice PA1 ps1.length Pc1, .slice SA1 bs1.length Sc1, wo) n ⟨ps1, bs1, PA1, Pc1, SA1, Sc1, rfl, rfl, HS1.out, HR1.out⟩;obtain ⟨ps, bs, PA, Pc, SA, Sc, hpv, hsv, hS, hR1⟩ := hle;dsimp only at hpv hsv hS;rw [hpv, hsv] at hR1 ⊢;clear hpv hsv HS1 HR1 ps1 bs1 PA1 Pc1 SA1 Sc1;have hsl := (qcq bs).length_eq;have HSL := Lib.hid hsl; clear hsl
  cases ps with
  | nil =>
   obtain ⟨hg, hr9⟩ := run_nil hR1;subst hr9;have HS := Lib.hid hS; clear hS hR1 hg;go_wp2_with fail
   go_ret2
   have e1 : (qcb ((0 : Int), bs)).1 = qdf bs := by simp [qcb]
   exact ⟨SA, Sc, by rw [e1, HSL.out]; rfl, by rw [e1]; exact HS.out.binds, HBW.out⟩
  | cons p ps =>
   obtain ⟨hg, hcase⟩ := qln hR1;obtain ⟨hpl, hbl, hpv, hbv⟩ := qc2.1 hg;obtain ⟨hva, hvb⟩ := hpv p (List.mem_cons_self ..);have hpv' : ∀ q ∈ ps, q.1.valid = 0 ∧ q.2.valid = 0 := fun q hq => hpv q (List.mem_cons_of_mem _ hq);have hpls : ps.length + 1 ≤ 1000000 := by simpa using hpl
   obtain ⟨hc1, hc2, hc3⟩ := hS.pairs;unfold maxLen at hc2;obtain ⟨pb, off, rfl, hpb, hlp⟩ : ∃ pb off, PA = some ⟨pb, off, none⟩ ∧ pb < wo.heap.size ∧ qal wo (fun b => b < wo.heap.size) (flat (p :: ps)) pb off := by
    rcases hc3 with h | ⟨pb, off, h1, h2, h3⟩
    ·cases h
    ·exact ⟨pb, off, h1, h2, h3⟩
   obtain ⟨a, b⟩ := p;rw [flat, qal, qal] at hlp;obtain ⟨⟨A, c, k0, k1, k2, k3, hra⟩, ⟨A', c', l0, l1, l2, l3, hrb⟩, hlr⟩ := hlp;dsimp only at k0 k1 k2 k3 l0 l1 l2 l3 hra hrb hva hvb hcase;have k0 : wo.drew.cell? ⟨pb, off, none⟩ = _ := k0;have k1 : wo.drew.cell? ⟨pb, off + 1, none⟩ = _ := k1;have k2 : wo.drew.cell? ⟨pb, off + 2, none⟩ = _ := k2;have k3 : wo.drew.cell? ⟨pb, off + 3, none⟩ = _ := k3;have l0 : wo.drew.cell? ⟨pb, off + 4, none⟩ = _ := l0;have l1 : wo.drew.cell? ⟨pb, off + 4 + 1, none⟩ = _ := l1;have l2 : wo.drew.cell? ⟨pb, off + 4 + 2, none⟩ = _ := l2;have l3 : wo.drew.cell? ⟨pb, off + 4 + 3, none⟩ = _ := l3;have hsd : wo.drew.heap.size = wo.heap.size := rfl;have hbd : Below wo.heap.size wo wo.drew := (Below.refl _ _).drew;have hcc : ps.length + 1 ≤ Pc := by simpa using hc1
   clear hc1 hc3 hpl hpv hg hR1;have HLR := Lib.hid hlr; clear hlr;have HRA := Lib.hid hra; clear hra;have HRB := Lib.hid hrb; clear hrb;have HVA := Lib.hid hva; clear hva;have HVB := Lib.hid hvb; clear hvb;have HPV := Lib.hid hpv'; clear hpv';have HBV := Lib.hid hbv; clear hbv;have HS := Lib.hid hS; clear hS;have HSD := Lib.hid hsd; clear hsd;have HBD := Lib.hid hbd; clear hbd;have HCASE := Lib.hid hcase; clear hcase;go_wp2_with fail
   refine qa0 (fun a0 a' w' => ∃ bx by', a' = ((((((((((a0.put (some 18) (.slice (some ⟨pb, off, none⟩) (ps.length + 1) Pc)).put (some 19) (.pointer (some ⟨pb, off, none⟩))).put (some 20) (.pointer (some ⟨pb, off, none⟩))).put (some 21) (.agg #[.int .i64 a.kind, .string a.name, .int .i64 a.sort, .slice A a.kids.length c])).put (some 22) (.slice (some ⟨pb, off, none⟩) (ps.length + 1) Pc)).put (some 23) (.pointer (some ⟨pb, off, none⟩))).put (some 24) (.pointer (some ⟨pb, off + 4, none⟩))).put (some 25) (.agg #[.int .i64 b.kind, .string b.name, .int .i64 b.sort, .slice A' b.kids.length c'])).put (some 5) (.pointer (some ⟨bx, 0, none⟩))).put (some 6) ((.pointer (some ⟨by', 0, none⟩)))) ∧
    w'.heap[bx]? = some (boxT a A c) ∧ w'.heap[by']? = some (boxT b A' c') ∧ Below wo.heap.size wo w' ∧ wo.heap.size ≤ bx ∧ wo.heap.size ≤ by' ∧ bx ≠ by') ?_ ?_
   ·have HB0 := HBD.out;refine qai (fun Y => Below wo.drew.heap.size wo.drew Y) 11 (.held 0 (.held 1 (.held 2 (.held 3 (.held 4 (.held 5 (.held 6 (.held 7 (.two 8 9 (.op 9 (.op 10 (.op 11 .nil))) (.op 8 (.op 10 (.op 11 .nil)))))))))))) mixed (by kernel_rfl) ?_;generalize wo.drew = W0 at *;refine qab (v := .slice (some ⟨pb, off, none⟩) (ps.length + 1) Pc) rfl rfl (fun _ _ _ h => nomatch h.1) (Below.refl _ _) (fun Y hY => by
     (try simp only [Act.put]); go_simp) ?_
    refine qab (v := .pointer (some ⟨pb, off, none⟩)) rfl rfl (fun _ _ _ h => nomatch h.1) (Below.refl _ _) (fun Y hY => by
     (try simp only [Act.put]); go_simp) ?_
    refine qab (v := .pointer (some ⟨pb, off, none⟩)) rfl rfl (fun _ _ _ h => nomatch h.1) (Below.refl _ _) (fun Y hY => by
     (try simp only [Act.put]); go_simp) ?_
    refine qab (v := .agg #[.int .i64 a.kind, .string a.name, .int .i64 a.sort, .slice A a.kids.length c]) rfl rfl (fun _ _ _ h => nomatch h.1) (Below.refl _ _) (fun Y hY => by
     have z0 := (hY.cell (p := ⟨pb, off, none⟩) (by show pb < _; have := HSD.out; omega)).trans k0;have z1 := (hY.cell (p := ⟨pb, off + 1, none⟩) (by show pb < _; have := HSD.out; omega)).trans k1;have z2 := (hY.cell (p := ⟨pb, off + 2, none⟩) (by show pb < _; have := HSD.out; omega)).trans k2;have z3 := (hY.cell (p := ⟨pb, off + 3, none⟩) (by show pb < _; have := HSD.out; omega)).trans k3
     (try simp only [Act.put]); go_simp) ?_
    refine qab (v := .slice (some ⟨pb, off, none⟩) (ps.length + 1) Pc) rfl rfl (fun _ _ _ h => nomatch h.1) (Below.refl _ _) (fun Y hY => by
     (try simp only [Act.put]); go_simp) ?_
    refine qab (v := .pointer (some ⟨pb, off, none⟩)) rfl rfl (fun _ _ _ h => nomatch h.1) (Below.refl _ _) (fun Y hY => by
     (try simp only [Act.put]); go_simp) ?_
    refine qab (v := .pointer (some ⟨pb, off + 4, none⟩)) rfl rfl (fun _ _ _ h => nomatch h.1) (Below.refl _ _) (fun Y hY => by
     (try simp only [Act.put]); go_simp) ?_
    refine qab (v := .agg #[.int .i64 b.kind, .string b.name, .int .i64 b.sort, .slice A' b.kids.length c']) rfl rfl (fun _ _ _ h => nomatch h.1) (Below.refl _ _) (fun Y hY => by
     have z0 := (hY.cell (p := ⟨pb, off + 4, none⟩) (by show pb < _; have := HSD.out; omega)).trans l0;have z1 := (hY.cell (p := ⟨pb, off + 4 + 1, none⟩) (by show pb < _; have := HSD.out; omega)).trans l1;have z2 := (hY.cell (p := ⟨pb, off + 4 + 2, none⟩) (by show pb < _; have := HSD.out; omega)).trans l2;have z3 := (hY.cell (p := ⟨pb, off + 4 + 3, none⟩) (by show pb < _; have := HSD.out; omega)).trans l3
     (try simp only [Act.put]); go_simp) ?_
    simp only [Act.put, List.setIfInBounds_toArray];refine mix_two ?_ ?_
    ·skip
     refine mix_op rfl rfl (fun K hK => ?_);go_wp2_with fail
     obtain ⟨M1, hM1⟩ : ∃ M1, M1 = W0.alloc (.cells #[.int .i64 0, .string ⟨#[]⟩, .int .i64 0, .slice none 0 0] 24) := ⟨_, rfl⟩;have hb1 : Below W0.heap.size W0 M1 := by rw [hM1]; exact qah (Nat.le_refl _) _
     have hs1 : W0.heap.size < M1.heap.size := by rw [hM1]; simp
     have hz1 : M1.heap[W0.heap.size]? = some (.cells #[.int .i64 0, .string ⟨#[]⟩, .int .i64 0, .slice none 0 0] 24 (0, 0)) := by rw [hM1]; exact heap_alloc_new _ _
     rw [← hM1];clear hM1;refine ⟨fun _ => hb1, ?_⟩;refine mix_op rfl rfl (fun K hK => ?_);go_wp2_with fail
     obtain ⟨M2, hM2⟩ : ∃ M2, M2 = M1.alloc (.cells #[.int .i64 0, .string ⟨#[]⟩, .int .i64 0, .slice none 0 0] 24) := ⟨_, rfl⟩;have hb2 : Below M1.heap.size M1 M2 := by rw [hM2]; exact qah (Nat.le_refl _) _
     have hs2 : M1.heap.size < M2.heap.size := by rw [hM2]; simp
     have hz2 : M2.heap[M1.heap.size]? = some (.cells #[.int .i64 0, .string ⟨#[]⟩, .int .i64 0, .slice none 0 0] 24 (0, 0)) := by rw [hM2]; exact heap_alloc_new _ _
     have hz1' := (hb2.block _ hs1).trans hz1;have hb12 := qac hb1 hb2 hb1.size;rw [← hM2];clear hM2 hz1;refine ⟨fun _ => hb12, ?_⟩;obtain ⟨p0, p1, p2, p3, pf⟩ := qad hz1';obtain ⟨q0, q1, q2, q3, qf⟩ := qad hz2;refine mix_op rfl rfl (fun K hK => ?_);go_wp2_with fail
     obtain ⟨M3, hM3⟩ : ∃ M3, M3 = (((M2.setCell ⟨W0.heap.size, 0, none⟩ (.int .i64 a.kind)).setCell ⟨W0.heap.size, 1, none⟩ (.string a.name)).setCell ⟨W0.heap.size, 2, none⟩ (.int .i64 a.sort)).setCell ⟨W0.heap.size, 3, none⟩ (.slice A a.kids.length c) := ⟨_, rfl⟩;have hx3 : M3.heap[W0.heap.size]? = some (boxT a A c) := by rw [hM3]; exact qbr hz1'
     have hy3 : M3.heap[M1.heap.size]? = some (.cells #[.int .i64 0, .string ⟨#[]⟩, .int .i64 0, .slice none 0 0] 24 (0, 0)) := by
      rw [hM3]
      iterate 4 rw [Below.heap_setCell _ _ _ _ (by show M1.heap.size ≠ W0.heap.size; omega)]
      exact hz2
     have hb3 : Below W0.heap.size W0 M3 := by
      rw [hM3]
      iterate 4 refine Below.setCell ?_ (by show W0.heap.size ≤ W0.heap.size; omega) _
      exact hb12
     rw [← hM3];clear hM3 p0 p1 p2 p3 pf q0 q1 q2 q3 qf;refine ⟨fun _ => hb3, ?_⟩;obtain ⟨q0, q1, q2, q3, qf⟩ := qad hy3;refine mix_op rfl rfl (fun K hK => ?_);go_wp2_with fail
     refine ⟨fun h => absurd h (by decide), qas ?_⟩;have hsd := HSD.out;refine ⟨rfl, W0.heap.size, M1.heap.size, (by kernel_rfl), ?_, qbr hy3, ?_, by omega, by omega, by omega⟩
     ·iterate 4 rw [Below.heap_setCell _ _ _ _ (by show W0.heap.size ≠ M1.heap.size; omega)]
      exact hx3
     ·refine qac HB0 ?_ HB0.size
      iterate 4 refine Below.setCell ?_ (by show W0.heap.size ≤ M1.heap.size; omega) _
      exact hb3
    ·skip
     refine mix_op rfl rfl (fun K hK => ?_);go_wp2_with fail
     obtain ⟨M1, hM1⟩ : ∃ M1, M1 = W0.alloc (.cells #[.int .i64 0, .string ⟨#[]⟩, .int .i64 0, .slice none 0 0] 24) := ⟨_, rfl⟩;have hb1 : Below W0.heap.size W0 M1 := by rw [hM1]; exact qah (Nat.le_refl _) _
     have hs1 : W0.heap.size < M1.heap.size := by rw [hM1]; simp
     have hz1 : M1.heap[W0.heap.size]? = some (.cells #[.int .i64 0, .string ⟨#[]⟩, .int .i64 0, .slice none 0 0] 24 (0, 0)) := by rw [hM1]; exact heap_alloc_new _ _
     rw [← hM1];clear hM1;refine ⟨fun _ => hb1, ?_⟩;refine mix_op rfl rfl (fun K hK => ?_);go_wp2_with fail
     obtain ⟨M2, hM2⟩ : ∃ M2, M2 = M1.alloc (.cells #[.int .i64 0, .string ⟨#[]⟩, .int .i64 0, .slice none 0 0] 24) := ⟨_, rfl⟩;have hb2 : Below M1.heap.size M1 M2 := by rw [hM2]; exact qah (Nat.le_refl _) _
     have hs2 : M1.heap.size < M2.heap.size := by rw [hM2]; simp
     have hz2 : M2.heap[M1.heap.size]? = some (.cells #[.int .i64 0, .string ⟨#[]⟩, .int .i64 0, .slice none 0 0] 24 (0, 0)) := by rw [hM2]; exact heap_alloc_new _ _
     have hz1' := (hb2.block _ hs1).trans hz1;have hb12 := qac hb1 hb2 hb1.size;rw [← hM2];clear hM2 hz1;refine ⟨fun _ => hb12, ?_⟩;obtain ⟨p0, p1, p2, p3, pf⟩ := qad hz2;obtain ⟨q0, q1, q2, q3, qf⟩ := qad hz1';refine mix_op rfl rfl (fun K hK => ?_);go_wp2_with fail
     obtain ⟨M3, hM3⟩ : ∃ M3, M3 = (((M2.setCell ⟨M1.heap.size, 0, none⟩ (.int .i64 a.kind)).setCell ⟨M1.heap.size, 1, none⟩ (.string a.name)).setCell ⟨M1.heap.size, 2, none⟩ (.int .i64 a.sort)).setCell ⟨M1.heap.size, 3, none⟩ (.slice A a.kids.length c) := ⟨_, rfl⟩;have hx3 : M3.heap[M1.heap.size]? = some (boxT a A c) := by rw [hM3]; exact qbr hz2
     have hy3 : M3.heap[W0.heap.size]? = some (.cells #[.int .i64 0, .string ⟨#[]⟩, .int .i64 0, .slice none 0 0] 24 (0, 0)) := by
      rw [hM3]
      iterate 4 rw [Below.heap_setCell _ _ _ _ (by show W0.heap.size ≠ M1.heap.size; omega)]
      exact hz1'
     have hb3 : Below W0.heap.size W0 M3 := by
      rw [hM3]
      iterate 4 refine Below.setCell ?_ (by show W0.heap.size ≤ M1.heap.size; omega) _
      exact hb12
     rw [← hM3];clear hM3 p0 p1 p2 p3 pf q0 q1 q2 q3 qf;refine ⟨fun _ => hb3, ?_⟩;obtain ⟨q0, q1, q2, q3, qf⟩ := qad hy3;refine mix_op rfl rfl (fun K hK => ?_);go_wp2_with fail
     refine ⟨fun h => absurd h (by decide), qas ?_⟩;have hsd := HSD.out;refine ⟨rfl, M1.heap.size, W0.heap.size, (by kernel_rfl), ?_, qbr hy3, ?_, by omega, by omega, by omega⟩
     ·iterate 4 rw [Below.heap_setCell _ _ _ _ (by show M1.heap.size ≠ W0.heap.size; omega)]
      exact hx3
     ·refine qac HB0 ?_ HB0.size
      iterate 4 refine Below.setCell ?_ (by show W0.heap.size ≤ W0.heap.size; omega) _
      exact hb3
   rintro a' W3 ⟨bx, by', rfl, hbx, hby, hb3, hx1, hy1, hxy⟩;clear k0 k1 k2 k3 l0 l1 l2 l3;have HAT0 : Hid (AtS wo bx by' (boxT a A c) (boxT b A' c') W3) := ⟨hb3, hbx, hby⟩;clear hbx hby hb3
   rename_i K hK
   show K _ _;refine hK _ _ ?_;refine wp_seq_k (fun K2 hK2 => ?_);refine qa0 (fun a0 a' w' => ∃ PA' Pc', a' = (((a0.put (some 26) (.slice (some ⟨pb, off, none⟩) (ps.length + 1) Pc)).put (some 27) (.slice PA' ps.length Pc')).put (some 0) (.slice PA' ps.length Pc')) ∧
    w' = W3 ∧ ps.length ≤ Pc' ∧ Pc' ≤ Pc ∧ Hid (PA' = some ⟨pb, off + 8, none⟩ ∨ (ps = [] ∧ PA' = some ⟨pb, off, none⟩))) ?_ ?_
   ·by_cases hP : Pc = 1
    ·have hps0 : ps = [] := List.eq_nil_of_length_eq_zero (by omega);subst hP hps0;go_wp2_with fail
     first | exact ⟨_, _, ⟨rfl, rfl⟩, by omega, Lib.hid (.inr rfl)⟩ | exact ⟨_, _, ⟨rfl, rfl⟩, rfl, by omega, Lib.hid (.inr rfl)⟩ | exact ⟨_, _, ⟨rfl, rfl⟩, rfl, by omega, by omega, Lib.hid (.inr ⟨rfl, rfl⟩)⟩
    ·have hP2 : ¬ Pc - 1 = 0 := by omega
     go_wp2_with fail
     first | exact ⟨_, _, ⟨rfl, rfl⟩, by omega, by omega, Lib.hid (.inl rfl)⟩ | exact ⟨_, _, ⟨rfl, rfl⟩, rfl, by omega, by omega, Lib.hid (.inl rfl)⟩
   rintro a' W4 ⟨PA', Pc', rfl, hW4, hp1, hp2, HP3⟩;rw [hW4];clear hW4 W4 hK;refine hK2 _ _ ?_;clear hK2 K2 K HBD HSD hcc;have hsa : a.size ≤ 400 := qak HVA.out;have hsb : b.size ≤ 400 := qak HVB.out;have HPR : Hid (∀ Z, Below wo.heap.size wo Z → RepB Z (fun b => b < Z.heap.size) ps PA' Pc') := Lib.hid fun Z hZ => by
    refine ⟨hp1, by unfold maxLen; omega, ?_⟩;rcases HP3.out with h3 | h3
    ·right;exact ⟨pb, off + 8, h3, Nat.lt_of_lt_of_le hpb hZ.size, qal.mono (fun b h => Nat.lt_of_lt_of_le h hZ.size) (fun _ hp => hZ.cell hp) _ _ _ hpb HLR.out⟩
    ·exact .inl h3.1
   have HRTA : Hid (∀ Z, Below wo.heap.size wo Z → RepT Z Z.heap.size a A c) := Lib.hid fun Z hZ => RepP.mono (fun b h => Nat.lt_of_lt_of_le h hZ.size) (fun _ hp => hZ.cell hp) _ _ _ HRA.out;have HRTB : Hid (∀ Z, Below wo.heap.size wo Z → RepT Z Z.heap.size b A' c') := Lib.hid fun Z hZ => RepP.mono (fun b h => Nat.lt_of_lt_of_le h hZ.size) (fun _ hp => hZ.cell hp) _ _ _ HRB.out;have SM := qdc a b A A' c c' W3 (by omega) (by omega) (HRTA.out _ HAT0.out.bel) (HRTB.out _ HAT0.out.bel);have AL : Hid (∀ Z, Calls Tryz.prog 63 #[a.val A c, b.val A' c'] Z fun e w' => e = .returned (.bool (qbb a b)) ∧ Lay Z.heap.size Z w') := Lib.hid fun Z => qmo a b A A' c c' Z (by have := qc9 a; omega) (by have := qc9 b; omega);obtain ⟨qs, hqs⟩ : ∃ q, q = a.same b := ⟨_, rfl⟩;rw [← hqs] at SM;have HQS := Lib.hid hqs; clear hqs
   obtain ⟨qk, hqk⟩ : ∃ q, q = qbb a b := ⟨_, rfl⟩;rw [← hqk] at AL;have HQK := Lib.hid hqk; clear hqk;simp only [Tm.val] at SM AL;have SM := Lib.hid SM;obtain ⟨a0, a1, a2, a3, af⟩ := qao a (HAT0.out.one);obtain ⟨b0, b1, b2, b3, bf⟩ := qao b (HAT0.out.two);go_wp2_with fail
   refine SM.out.mono ?_; clear SM a0 a1 a2 a3 af b0 b1 b2 b3 bf;rintro e w5 ⟨rfl, hl⟩;have hat := HAT0.out.go hl.below;clear hl HAT0;have HAT := Lib.hid hat; clear hat;obtain ⟨a0, a1, a2, a3, af⟩ := qao a (HAT.out.one);obtain ⟨b0, b1, b2, b3, bf⟩ := qao b (HAT.out.two)
   cases qs with
   | true =>
    have hab : a = b := Tm.same_iff.1 HQS.out.symm;have hst : qa3 a b ps bs = (0, ps, bs) := if_pos hab;have hc := HCASE.out;rw [hst] at hc;obtain ⟨m, hm, hrun⟩ : ∃ m, m < μ (.slice (some ⟨pb, off, none⟩) ((a, b) :: ps).length Pc, .slice SA bs.length Sc, wo) ∧ runU m ps bs = some r := by
     rcases hc with ⟨h, -⟩ | ⟨-, h⟩
     ·exact absurd rfl h
     ·exact h
    have hS5 : StR ps bs PA' Pc' SA Sc w5 := ⟨HPR.out w5 HAT.out.bel, HS.out.binds_go HAT.out.bel⟩;have hm5 := (HMU.out (.slice PA' ps.length Pc', .slice SA bs.length Sc, w5) m ⟨ps, bs, PA', Pc', SA, Sc, rfl, rfl, hS5, hrun⟩).2;have HS5 := Lib.hid hS5; clear hS5;have HR5 := Lib.hid hrun; clear hrun hc hst HCASE hab AL;have HB5 := Lib.hid (HBW.out.trans (HAT.out.bel.mono HBW.out.size));go_wp2_with fail
    go_roundw
    case rel => exact ⟨m, ps, bs, PA', Pc', SA, Sc, rfl, rfl, HS5.out, HR5.out, HB5.out⟩
    case measure => simp only [List.length_cons] at hm ⊢; first | omega | (have := hm; have := hm5; omega)
   | false =>
   have hab : a ≠ b := Tm.same_false.1 HQS.out.symm;have HAB := Lib.hid hab; clear hab HQS;have AL := Lib.hid (AL.out w5);go_wp2_with fail
   refine AL.out.mono ?_; clear AL a0 a1 a2 a3 af b0 b1 b2 b3 bf;rintro e w6 ⟨rfl, hl⟩;have hat := HAT.out.go hl.below;clear hl HAT;have HAT := Lib.hid hat; clear hat;obtain ⟨a0, a1, a2, a3, af⟩ := qao a (HAT.out.one);obtain ⟨b0, b1, b2, b3, bf⟩ := qao b (HAT.out.two)
   cases qk with
   | true =>
    have hkl : a.kids.length = b.kids.length := (qcl.1 HQK.out.symm).2.2.2;have hKA := RepP.kidsP HRA.out;have hKB := RepP.kidsP HRB.out;have hka1 := qc9 a;have HKL := Lib.hid hkl; clear hkl;have HKA := Lib.hid hKA; clear hKA;have HKB := Lib.hid hKB; clear hKB;go_wp2_with fail
    clear a0 a1 a2 a3 af b0 b1 b2 b3 bf;go_loopw [7, 8] (fun v i wr => ∃ (k c0 : Nat) (A0 : Option Addr) (it2 : List IB), k ≤ a.kids.length ∧ i = .int .i64 k ∧ v = .slice A0 it2.length c0 ∧ Hid (it2.length = k) ∧ Hid (RowG 57 wr w6.heap.size (fun b => b < wo.heap.size) (.slice A0 it2.length c0) it2) ∧ Hid (it2.map IB.bd = (a.kids.zip b.kids).take k) ∧ Hid (AtS wo bx by' (boxT a A c) (boxT b A' c') wr) ∧ Hid (w6.heap.size ≤ wr.heap.size)) (fun _ i _ => a.kids.length - (intOf i).toNat)
    case atStart => exact ⟨0, 0, none, [], Nat.zero_le _, rfl, rfl, rfl, RowG.nil _ _ _ _, by show _ = _; simp, HAT.out, Nat.le_refl _⟩
    case round =>
     obtain ⟨k, c0, A0, it2, hk, rfl, rfl, HIL, HROW, HITS, HATR, HSR⟩ := hrel;have i1 : (0 : Int) ≤ (k : Int) := Int.natCast_nonneg _;have hw6 := HAT.out.bel.size;have hsr := HSR.out;have hkl := HKL.out;by_cases hlt : k < a.kids.length
     ·have i2 : (k : Int) < (a.kids.length : Int) := by omega
      have i3 : (k : Int) < (b.kids.length : Int) := by omega
      rcases HKA.out.2.2 with h | ⟨kb, o1, rfl, hkb, hla⟩
      ·rw [h] at hlt; simp at hlt
      rcases HKB.out.2.2 with h | ⟨kb', o2, rfl, hkb', hlb⟩
      ·rw [hkl, h] at hlt; simp at hlt
      obtain ⟨X, cx, k0, k1, k2, k3, hrx⟩ := hla.get k hlt;obtain ⟨Y, cy, l0, l1, l2, l3, hry⟩ := hlb.get k (by omega);have hzip : it2.map IB.bd ++ [(a.kids[k], b.kids[k])] = (a.kids.zip b.kids).take (k + 1) := by
       rw [HITS.out, List.take_succ_eq_append_getElem (by rw [List.length_zip]; omega), List.getElem_zip]
      obtain ⟨x, hx⟩ : ∃ x, x = a.kids[k] := ⟨_, rfl⟩;obtain ⟨y, hy⟩ : ∃ y, y = b.kids[k] := ⟨_, rfl⟩;rw [← hx] at k0 k1 k2 k3 hrx hzip;rw [← hy] at l0 l1 l2 l3 hry hzip;clear hx hy hla hlb;have hatr : AtS wo bx by' (boxT a (some ⟨kb, o1, none⟩) c) (boxT b (some ⟨kb', o2, none⟩) c') wr.drew := ⟨HATR.out.bel.drew, HATR.out.one, HATR.out.two⟩
      have hrow : RowG 57 wr.drew w6.heap.size (fun b => b < wo.heap.size) (.slice A0 it2.length c0) it2 := HROW.out.below (Below.refl _ _).drew;have hsd : wr.drew.heap.size = wr.heap.size := rfl;have hown : ∀ q, q < w6.heap.size → (Value.slice A0 it2.length c0).ownBlock ≠ some q := fun q hq e => by have := (HROW.out.lt q e).1; omega
      have hcw : ∀ p : Addr, p.block < wo.heap.size → wr.drew.cell? p = wo.cell? p := fun p h1 => hatr.bel.cell h1;have hbxl6 : bx < w6.heap.size := (Array.getElem?_eq_some_iff.1 HAT.out.one).1;have hbyl6 : by' < w6.heap.size := (Array.getElem?_eq_some_iff.1 HAT.out.two).1
      obtain ⟨-, -, -, a3, -⟩ := qao a (hatr.one);obtain ⟨-, -, -, b3, -⟩ := qao b (hatr.two);have a3w : wr.cell? ⟨bx, 3, none⟩ = some (.slice (some ⟨kb, o1, none⟩) a.kids.length c) := a3;have hkbl : kb < wo.heap.size := hkb;have hkbl' : kb' < wo.heap.size := hkb'
      replace k0 := (hcw ⟨kb, o1 + k * 4, none⟩ hkb).trans k0
      replace k1 := (hcw ⟨kb, o1 + k * 4 + 1, none⟩ hkb).trans k1
      replace k2 := (hcw ⟨kb, o1 + k * 4 + 2, none⟩ hkb).trans k2
      replace k3 := (hcw ⟨kb, o1 + k * 4 + 3, none⟩ hkb).trans k3
      replace l0 := (hcw ⟨kb', o2 + k * 4, none⟩ hkb').trans l0
      replace l1 := (hcw ⟨kb', o2 + k * 4 + 1, none⟩ hkb').trans l1
      replace l2 := (hcw ⟨kb', o2 + k * 4 + 2, none⟩ hkb').trans l2
      replace l3 := (hcw ⟨kb', o2 + k * 4 + 3, none⟩ hkb').trans l3
      have hlen : it2.length + 1 ≤ 100000000 := by rw [HIL.out]; omega
      have hfr : ∀ (t : Tm) A c, RepP wo (fun b => b < wo.heap.size) t A c → RepP wr.drew (fun b => b < wo.heap.size ∧ b < wr.drew.heap.size ∧ (Value.slice A0 it2.length c0).ownBlock ≠ some b) t A c := fun t A c h =>
       RepP.mono (fun b (h : b < wo.heap.size) => ⟨h, by omega, hown b (by omega)⟩) (fun p (hp : p.block < wo.heap.size) => hcw p hp) _ _ _ h
      obtain ⟨g9, c9, w9, hap, hrow9, hbl9, hsm9, hsz9, hown9⟩ := hrow.more1 qds (by omega) ((x, X, cx), (y, Y, cy)) (hfr _ _ _ hrx) (hfr _ _ _ hry) hlen;have hat9 : AtS wo bx by' (boxT a (some ⟨kb, o1, none⟩) c) (boxT b (some ⟨kb', o2, none⟩) c') w9 :=
       ⟨hbl9 _ _ hatr.bel (by omega), (hsm9 _ (by omega) (hown _ (by omega))).trans hatr.one, (hsm9 _ (by omega) (hown _ (by omega))).trans hatr.two⟩
      have HAT9 := Lib.hid hat9; clear hat9 hatr;have HROW9 := Lib.hid hrow9; clear hrow9 hrow;have HZIP := Lib.hid hzip; clear hzip;have HSM := Lib.hid hsm9; clear hsm9;have hz6 : w6.heap.size ≤ wr.drew.heap.size := by omega
      clear hkl;clear hfr hrx hry hcw hbl9 hown9 hlen hsd;go_wp2_with fail
      clear a3w;refine qai (fun Y => ∀ p : Addr, p.block < wr.drew.heap.size → (Value.slice A0 it2.length c0).ownBlock ≠ some p.block → Y.cell? p = wr.drew.cell? p) 14
       (.held 0 (.held 1 (.held 2 (.held 3 (.held 4 (.held 5 (.held 6 (.held 7 (.held 8 (.held 9 (.held 10 (.held 11 (.op 12 (.op 13 (.op 14 .nil))))))))))))))) mixed (by kernel_rfl) ?_
      generalize wr.drew = Z at *;refine qab (v := .slice A0 it2.length c0) rfl rfl (fun _ _ _ h => h) (fun _ _ _ => rfl) (fun Y hY => by
        (try simp only [Act.put]); go_simp) ?_
      refine qab (v := .pointer (some ⟨bx, 3, none⟩)) rfl rfl (fun _ _ _ h => h) (fun _ _ _ => rfl) (fun Y hY => by
        (try simp only [Act.put]); go_simp) ?_
      refine qab (v := (.slice (some ⟨kb, o1, none⟩) a.kids.length c)) rfl rfl (fun _ _ _ h => h) (fun _ _ _ => rfl) (fun Y hY => by
        have z0 := (hY ⟨bx, 3, none⟩ (by show bx < _; omega) (hown bx (by omega))).trans a3
        (try simp only [Act.put]); go_simp) ?_
      refine qab (v := .int .i64 k) rfl rfl (fun _ _ _ h => h) (fun _ _ _ => rfl) (fun Y hY => by
        (try simp only [Act.put]); go_simp) ?_
      refine qab (v := .pointer (some ⟨kb, o1 + k * 4, none⟩)) rfl rfl (fun _ _ _ h => h) (fun _ _ _ => rfl) (fun Y hY => by
        (try simp only [Act.put]); go_simp) ?_
      refine qab (v := .agg #[.int .i64 x.kind, .string x.name, .int .i64 x.sort, .slice X x.kids.length cx]) rfl rfl (fun _ _ _ h => h) (fun _ _ _ => rfl) (fun Y hY => by
        have z0 := (hY ⟨kb, o1 + k * 4, none⟩ (by show kb < _; omega) (hown kb (by omega))).trans k0;have z1 := (hY ⟨kb, o1 + k * 4 + 1, none⟩ (by show kb < _; omega) (hown kb (by omega))).trans k1;have z2 := (hY ⟨kb, o1 + k * 4 + 2, none⟩ (by show kb < _; omega) (hown kb (by omega))).trans k2;have z3 := (hY ⟨kb, o1 + k * 4 + 3, none⟩ (by show kb < _; omega) (hown kb (by omega))).trans k3
        (try simp only [Act.put]); go_simp) ?_
      refine qab (v := (.pointer (some ⟨by', 3, none⟩))) rfl rfl (fun _ _ _ h => h) (fun _ _ _ => rfl) (fun Y hY => by
        (try simp only [Act.put]); go_simp) ?_
      refine qab (v := (.slice (some ⟨kb', o2, none⟩) b.kids.length c')) rfl rfl (fun _ _ _ h => h) (fun _ _ _ => rfl) (fun Y hY => by
        have z0 := (hY ⟨by', 3, none⟩ (by show by' < _; omega) (hown by' (by omega))).trans b3
        (try simp only [Act.put]); go_simp) ?_
      refine qab (v := .int .i64 k) rfl rfl (fun _ _ _ h => h) (fun _ _ _ => rfl) (fun Y hY => by
        (try simp only [Act.put]); go_simp) ?_
      refine qab (v := (.pointer (some ⟨kb', o2 + k * 4, none⟩))) rfl rfl (fun _ _ _ h => h) (fun _ _ _ => rfl) (fun Y hY => by
        (try simp only [Act.put]); go_simp) ?_
      refine qab (v := .agg #[.int .i64 y.kind, .string y.name, .int .i64 y.sort, .slice Y y.kids.length cy]) rfl rfl (fun _ _ _ h => h) (fun _ _ _ => rfl) (fun Y hY => by
        have z0 := (hY ⟨kb', o2 + k * 4, none⟩ (by show kb' < _; omega) (hown kb' (by omega))).trans l0;have z1 := (hY ⟨kb', o2 + k * 4 + 1, none⟩ (by show kb' < _; omega) (hown kb' (by omega))).trans l1;have z2 := (hY ⟨kb', o2 + k * 4 + 2, none⟩ (by show kb' < _; omega) (hown kb' (by omega))).trans l2;have z3 := (hY ⟨kb', o2 + k * 4 + 3, none⟩ (by show kb' < _; omega) (hown kb' (by omega))).trans l3
        (try simp only [Act.put]); go_simp) ?_
      refine qab (v := .agg #[.int .i64 x.kind, .string x.name, .int .i64 x.sort, .slice X x.kids.length cx, .int .i64 y.kind, .string y.name, .int .i64 y.sort, .slice Y y.kids.length cy]) rfl rfl (fun _ _ _ h => h) (fun _ _ _ => rfl) (fun Y hY => by
        (try simp only [Act.put]); go_simp) ?_
      clear k0 k1 k2 k3 l0 l1 l2 l3 a3 b3;simp only [Act.put, List.setIfInBounds_toArray];refine mix_op rfl rfl (fun K hK => ?_);go_wp2_with fail
      refine ⟨fun _ p hp _ => (qah (Nat.le_refl _) _).cell hp, ?_⟩;refine mix_op rfl rfl (fun K hK => ?_);refine qap (by rfl) (.tmp 41) (.tmp 53) (by rfl) (by rfl) (by rfl) hap ?_;refine hK _ _ ⟨fun _ p hp hp2 => World.cell?_of_block (HSM.out p.block hp hp2), ?_⟩;clear hK K hap;simp only [Act.put, List.setIfInBounds_toArray];refine mix_op rfl rfl (fun K hK => ?_);go_wp2_with fail
      refine ⟨fun h => absurd h (by decide), ?_⟩;refine qas ?_;go_wp2_with fail
      go_roundw
      case rel => exact ⟨k + 1, c9, some ⟨g9, 0, none⟩, it2 ++ [((x, X, cx), (y, Y, cy))], by omega, by go_num, by rw [List.length_append]; rfl, by show _ = _; rw [List.length_append, HIL.out]; rfl, by rw [List.length_append]; exact HROW9.out, by show _ = _; rw [List.map_append]; exact HZIP.out, HAT9.out, by show _ ≤ _; omega⟩
      case measure => simp [intOf]; omega
     ·obtain rfl : k = a.kids.length := by omega
      have hrow := HROW.out;have hits : it2.map IB.bd = a.kids.zip b.kids := by
       rw [HITS.out, List.take_of_length_le (by rw [List.length_zip]; omega)]
      obtain ⟨o', hPA, hcl⟩ : ∃ o', PA' = some ⟨pb, o', none⟩ ∧ (o' = off + 8 ∨ ps = []) := by
       rcases HP3.out with h | ⟨h1, h2⟩
       ·exact ⟨_, h, .inl rfl⟩
       ·exact ⟨_, h2, .inr h1⟩
      subst hPA;obtain ⟨it3, hm3, hc3, hr3⟩ := qal.items HLR.out;have hcw : ∀ p : Addr, p.block < wo.heap.size → wr.cell? p = wo.cell? p := fun p h1 => HATR.out.bel.cell h1;have hl3 : ps.length = it3.length := by rw [← hm3, List.length_map]
      have hc4 : ∀ j u, (bCells it3)[j]? = some u → wr.cell? ⟨pb, o' + j, none⟩ = some u := fun j u hj => by
       rcases hcl with h | h
       ·rw [h];exact (hcw ⟨pb, off + 8 + j, none⟩ hpb).trans (hc3 j u hj)
       ·rw [h] at hl3;rw [List.eq_nil_of_length_eq_zero (show it3.length = 0 by rw [← hl3]; rfl)] at hj;simp [bCells, bits, itCells] at hj
      have hil := HIL.out;obtain ⟨A9, c9, w9, hap, hrow9, hg9⟩ := hrow.behind qds (fun b (h : b < wo.heap.size) => by omega) hsr pb o' Pc' ps.length it3 hl3 hc4
       (fun x hx => ⟨RepP.mono (fun _ h => h) (fun p hp => hcw p hp) _ _ _ (hr3 x hx).1, RepP.mono (fun _ h => h) (fun p hp => hcw p hp) _ _ _ (hr3 x hx).2⟩) (by omega)
      have hbe9 : Below wo.heap.size wo w9 := HATR.out.bel.grown hg9 (by omega) (fun j e => by have := (hrow.lt j e).1; omega);have hin : (it2 ++ it3).map IB.bd = a.kids.zip b.kids ++ ps := by rw [List.map_append, hits, hm3]
      obtain ⟨A7, c7, hv7, hrep7⟩ := hrow9.toB (P := fun b => b < w9.heap.size) (fun b _ h _ => h) (fun b h => (hrow9.lt b h).2);rw [hin] at hrep7;have hnl : it2.length + ps.length = (a.kids.zip b.kids ++ ps).length := by rw [← hin, List.length_map, List.length_append, hl3]
      injection hv7 with g1 g2 g3;clear g2;subst g1 g3;have hc := HCASE.out;rw [qmh HAB.out HQK.out.symm] at hc;obtain ⟨m, hm, hrun⟩ : ∃ m, m < μ (.slice (some ⟨pb, off, none⟩) ((a, b) :: ps).length Pc, .slice SA bs.length Sc, wo) ∧ runU m (a.kids.zip b.kids ++ ps) bs = some r := by
       rcases hc with ⟨h, -⟩ | ⟨-, h⟩
       ·exact absurd rfl h
       ·exact h
      have hS5 : StR (a.kids.zip b.kids ++ ps) bs A9 c9 SA Sc w9 := ⟨hrep7, HS.out.binds_go hbe9⟩;have hm5 := (HMU.out (.slice A9 (a.kids.zip b.kids ++ ps).length c9, .slice SA bs.length Sc, w9) m ⟨_, bs, A9, c9, SA, Sc, rfl, rfl, hS5, hrun⟩).2;have HS5 := Lib.hid hS5; clear hS5;have HR5 := Lib.hid hrun; clear hrun hc HCASE hrep7;have HB5 := Lib.hid (HBW.out.trans (hbe9.mono HBW.out.size)); clear hbe9;have HNL := Lib.hid hnl; clear hnl hin hits hrow9 hg9 hcl hc4 hc3 hr3 hm3 hrow hcw;have HL3 := Lib.hid hl3; clear hl3;have HIL2 := Lib.hid hil; clear hil;obtain ⟨a0, a1, a2, a3, af⟩ := qao a (HATR.out.one);go_wp2_with (at_builtin; refine qag rfl _ _ rfl rfl rfl hap ?_)
      go_roundw
      case rel => exact ⟨m, a.kids.zip b.kids ++ ps, bs, A9, c9, SA, Sc, by rw [HNL.out], rfl, HS5.out, HR5.out, HB5.out⟩
      case measure => rw [HNL.out]; simp only [List.length_cons] at hm ⊢; omega
   | false =>
   have CH := qkr a b A A' c c' w6 HVA.out HVB.out (HRTA.out _ HAT.out.bel) (HRTB.out _ HAT.out.bel);obtain ⟨q, hq⟩ : ∃ q, q = qan a b := ⟨_, rfl⟩;rw [← hq] at CH;have HQ := Lib.hid hq; clear hq;simp only [Tm.val] at CH;have CH := Lib.hid CH;go_wp2_with fail
   refine CH.out.mono ?_; clear CH a0 a1 a2 a3 af b0 b1 b2 b3 bf;rintro e w7 ⟨x, X, cx, y, Y, cy, rfl, hxy2, hq0, hb7⟩;have HXY := Lib.hid hxy2; clear hxy2;have HQ0 := Lib.hid hq0; clear hq0;have HB7 := Lib.hid (qac HAT.out.bel hb7 HAT.out.bel.size); clear hb7;generalize hqe : q.2.2 = qe at *;have HQE : Hid (qe = q.2.2) := Lib.hid hqe.symm;clear hqe;obtain ⟨V8, hV8⟩ : ∃ V8, V8 = (w7.alloc (boxT x X cx)).alloc (boxT y Y cy) := ⟨_, rfl⟩;have h8 : TwoA w7 (boxT x X cx) (boxT y Y cy) V8 := by
    have hh := Two.new w7 x y X Y cx cy;rw [hV8];exact ⟨hh.one, hh.two, hh.lay.below⟩
   have HB8 := Lib.hid (qac HB7.out h8.bel HB7.out.size);have H8 := Lib.hid h8; clear h8;simp only [boxT] at hV8;have HV8 := Lib.hid hV8; clear hV8;simp only [Tm.val];rcases eq_facts qe 0 with ⟨e0, e1, e2⟩ | ⟨e0, e1, e2⟩
   rotate_left
   ·have hse : (qa3 a b ps bs).1 = qe := by rw [HQE.out, HQ.out]; exact step_err HAB.out HQK.out.symm (by rw [← HQ.out, ← HQE.out]; exact e0)
    have hc := HCASE.out;rw [hse] at hc;have hr9 : r = (qe, []) := by
     rcases hc with ⟨-, h⟩ | ⟨h, -⟩
     ·exact h
     ·exact absurd h e0
    subst hr9;have HB9 := Lib.hid (HBW.out.trans (HB8.out.mono HBW.out.size));clear HCASE hc hse;go_wp2_with fail
    rw [← HV8.out]
    go_ret2
    exact qdr e0 HB9.out
   have hqz : q.2.2 = 0 := by rw [← HQE.out]; exact e0
   obtain ⟨hqx, hqy⟩ := HQ0.out e0;have hCh := qhf HVA.out HVB.out HAB.out (by rw [← HQ.out]; exact hqz);rw [← HQ.out, hqx, hqy] at hCh;subst e0;have hse : qa3 a b ps bs = (if qbn x y ps bs = true then 0 else 3, ps.map (putP x y), bs.map (putB x y) ++ [(x, y)]) := step_bind HAB.out HQK.out.symm (by rw [← HQ.out]; exact hqz) (by rw [← HQ.out]; exact hqx) (by rw [← HQ.out]; exact hqy);have hrx : RepT V8 V8.heap.size x X cx := by
    rcases HXY.out with ⟨h1, h2, h3, -, -, -⟩ | ⟨h1, h2, h3, -, -, -⟩
    ·rw [h1, h2, h3]; exact HRTA.out _ HB8.out
    ·rw [h1, h2, h3]; exact HRTB.out _ HB8.out
   have hry : RepT V8 V8.heap.size y Y cy := by
    rcases HXY.out with ⟨-, -, -, h1, h2, h3⟩ | ⟨-, -, -, h1, h2, h3⟩
    ·rw [h1, h2, h3]; exact HRTB.out _ HB8.out
    ·rw [h1, h2, h3]; exact HRTA.out _ HB8.out
   have BI := qmw x y ps (qdf bs) X Y PA' SA cx cy Pc' Sc V8 hCh.var hCh.vx hCh.vt HPV.out (fun b hb => by have := HBV.out b ((qcq bs).mem_iff.1 hb); exact ⟨this.1, this.2.2⟩) (by omega) (by have := HSL.out; omega) hrx hry (HPR.out _ HB8.out) (HS.out.binds_go HB8.out);rw [ins_sort, qmr, HSL.out] at BI;obtain ⟨ok, hok⟩ : ∃ v, v = qbn x y ps bs := ⟨_, rfl⟩;rw [← hok] at BI hse;clear hok hCh hrx hry hqz hqx hqy;have HSE := Lib.hid hse; clear hse;simp only [Tm.val] at BI;have BI := Lib.hid BI;obtain ⟨a0, a1, a2, a3, af⟩ := qao x (H8.out.one);obtain ⟨b0, b1, b2, b3, bf⟩ := qao y (H8.out.two);go_wp2_with fail
   rw [← HV8.out];refine BI.out.mono ?_; clear BI a0 a1 a2 a3 af b0 b1 b2 b3 bf;rintro e w9 ⟨A7, c7, A8, c8, rfl, hrl, hrs, hb9⟩;have hb99 := qac HB8.out hb9 HB8.out.size;have HB9 := Lib.hid (HBW.out.trans (hb99.mono HBW.out.size)); clear hb9
   cases ok with
   | false =>
    have hc := HCASE.out;rw [HSE.out] at hc;have hr9 : r = (3, []) := by
     rcases hc with ⟨-, h⟩ | ⟨h, -⟩
     ·exact h
     ·exact absurd (show (3 : Int) = 0 from h) (by decide)
    subst hr9;clear HCASE hc HSE;go_wp2_with fail
    go_ret2
    exact qdr (by decide) HB9.out
   | true =>
    have hc := HCASE.out;rw [HSE.out] at hc;obtain ⟨m, hm, hrun⟩ : ∃ m, m < μ (.slice (some ⟨pb, off, none⟩) ((a, b) :: ps).length Pc, .slice SA bs.length Sc, wo) ∧ runU m (ps.map (putP x y)) (bs.map (putB x y) ++ [(x, y)]) = some r := by
     rcases hc with ⟨h, -⟩ | ⟨-, h⟩
     ·exact absurd rfl h
     ·exact h
    have hS5 : StR (ps.map (putP x y)) (bs.map (putB x y) ++ [(x, y)]) A7 c7 A8 c8 w9 := ⟨hrl, hrs⟩;have hsl2 := (qcq (bs.map (putB x y) ++ [(x, y)])).length_eq;have hm5 := (HMU.out (.slice A7 (ps.map (putP x y)).length c7, .slice A8 (bs.map (putB x y) ++ [(x, y)]).length c8, w9) m ⟨_, _, A7, c7, A8, c8, rfl, rfl, hS5, hrun⟩).2;have HS5 := Lib.hid hS5; clear hS5;have HR5 := Lib.hid hrun; clear hrun hc HCASE hrl hrs hb99 HSE;rw [hsl2];have HSL2 := Lib.hid hsl2; clear hsl2;generalize ps.map (putP x y) = ps2 at *;generalize bs.map (putB x y) ++ [(x, y)] = bs2 at *;go_wp2_with fail
    go_roundw
    case rel => exact ⟨m, ps2, bs2, A7, c7, A8, c8, rfl, rfl, HS5.out, HR5.out, HB9.out⟩
    case measure => simp only [List.length_cons] at hm ⊢; omega
theorem qlq {w : World} {P : Nat → Prop} {B : Nat} {T : TypeId} (X : IB) (h : w.heap[B]? = some (.cells (bCells [X]).toArray T (0, 0))) (hP : P B) (h1 : RepP w P X.1.1 X.1.2.1 X.1.2.2) (h2 : RepP w P X.2.1 X.2.2.1 X.2.2.2) : RepB w P [X.bd] (some ⟨B, 0, none⟩) 1 := by
 refine ⟨Nat.le_refl _, by simp [maxLen], .inr ⟨B, 0, rfl, hP, ?_⟩⟩;have e : flat [X.bd] = (bits [X]).map (·.1) := (qfn [X]).symm;rw [e];refine qal.of_its (bits [X]) B 0 (fun j u hj => ?_) (fun y hy => ?_)
 ·have hj : (bCells [X])[j]? = some u := hj;rw [Nat.zero_add, cell_of_row w B j _ _ _ h]; simpa using hj
 ·obtain ⟨x, hx, e⟩ := qgj hy;rw [List.mem_singleton] at hx;rw [hx] at e;rcases e with e | e
  ·rw [e]; exact h1
  ·rw [e]; exact h2
set_option maxHeartbeats 2000000 in
theorem qcz (t u : Tm) (A A' : Option Addr) (c c' : Nat) (w : World) (r : Int × List Bd) (ht : t.size ≤ 1000000) (hu : u.size ≤ 1000000) (hrt : RepT w w.heap.size t A c) (hru : RepT w w.heap.size u A' c')
  (h1 : qau t u ≠ 0 → r = (qau t u, [])) (h2 : qau t u = 0 → ∃ n, runU n [(t, u)] [] = some r) :
  Calls Tryz.prog 12 #[t.val A c, u.val A' c'] w (qb2 r w) := by
 obtain ⟨V, hV⟩ : ∃ V, V = (w.alloc (boxT t A c)).alloc (boxT u A' c') := ⟨_, rfl⟩;have h2' : Two w t u A A' c c' V := by rw [hV]; exact Two.new _ _ _ _ _ _ _
 have VV := qfu t u A A' c c' V ht hu (hrt.go h2'.lay.below h2'.lay.size) (hru.go h2'.lay.below h2'.lay.size);obtain ⟨v2, hv2⟩ : ∃ v, v = qau t u := ⟨_, rfl⟩;rw [← hv2] at h1 h2 VV;clear hv2;have H2 := Lib.hid h2';obtain ⟨a0, a1, a2, a3, -⟩ := qad h2'.one;obtain ⟨b0, b1, b2, b3, -⟩ := qad h2'.two;clear h2';simp only [boxT] at hV;have HV := Lib.hid hV; clear hV;have HRT := Lib.hid hrt; clear hrt;have HRU := Lib.hid hru; clear hru;have E1 := Lib.hid h1; clear h1;have E2 := Lib.hid h2; clear h2;simp only [Tm.val] at VV ⊢;have VV := Lib.hid VV;go_enter Tryz.func12, Tryz.ntmps12
 go_wp2_with fail
 rw [← HV.out];go_wp2_with fail
 refine VV.out.mono ?_; clear VV a0 a1 a2 a3 b0 b1 b2 b3;rintro e w1 ⟨rfl, hl1⟩;rcases eq_facts v2 0 with ⟨h0, e0, n0⟩ | ⟨h0, e0, n0⟩
 ·obtain ⟨n, hrun⟩ := E2.out h0;subst h0;clear E1 E2;obtain ⟨a0, a1, a2, a3, -⟩ := qad (H2.out.go hl1).one;obtain ⟨b0, b1, b2, b3, -⟩ := qad (H2.out.go hl1).two;have hl := (H2.out.go hl1).lay;obtain ⟨W2, hW2⟩ : ∃ W2, W2 = w1.alloc (.cells (bCells [((t, A, c), (u, A', c'))]).toArray 53) := ⟨_, rfl⟩;have hx2 : W2.heap[w1.heap.size]? = some (.cells (bCells [((t, A, c), (u, A', c'))]).toArray 53 (0, 0)) := by rw [hW2]; exact heap_alloc_new _ _
  have hb2 : Below w1.heap.size w1 W2 := by rw [hW2]; exact qah (Nat.le_refl _) _
  have hbw : Below w.heap.size w W2 := qac hl.below hb2 hl.size;have hlt : w1.heap.size < W2.heap.size := (Array.getElem?_eq_some_iff.1 hx2).1;have hsz := hl.size;have SO := solve_any n [(t, u)] r (some ⟨w1.heap.size, 0, none⟩) 1 W2 (qlq ((t, A, c), (u, A', c')) hx2 hlt (RepP.mono (fun b (h : b < w.heap.size) => by show b < _; omega) (fun p (hp : p.block < w.heap.size) => hbw.cell hp) _ _ _ HRT.out) (RepP.mono (fun b (h : b < w.heap.size) => by show b < _; omega) (fun p (hp : p.block < w.heap.size) => hbw.cell hp) _ _ _ HRU.out)) hrun;have SO := Lib.hid SO;have HBW := Lib.hid hbw; clear hbw hb2 hx2 hl hl1 hrun;simp only [bCells, bits, itCells, Tm.cells, List.cons_append, List.nil_append] at hW2;have HW2 := Lib.hid hW2; clear hW2 hlt;go_wp2_with fail
  rw [← HW2.out];refine SO.out.mono ?_; clear SO;rintro e w5 ⟨A9, c9, rfl, hrep, hb5⟩;have HREP := Lib.hid hrep; clear hrep;have HB5 := Lib.hid (qac HBW.out hb5 HBW.out.size); clear hb5;go_wp2_with fail
  go_ret2
  exact ⟨A9, c9, rfl, HREP.out, HB5.out⟩
 ·have hr := E1.out h0;subst hr;have HL := Lib.hid (H2.out.go hl1).lay; clear hl1 E1 E2;go_wp2_with fail
  go_ret2
  exact qdr h0 HL.out.below
set_option maxHeartbeats 2000000 in
theorem qmm (t u : Tm) (A A' : Option Addr) (c c' : Nat) (w : World) (r : Int × List Bd) (ht : t.size ≤ 1000000) (hu : u.size ≤ 1000000) (hrt : RepT w w.heap.size t A c) (hru : RepT w w.heap.size u A' c')
  (h1 : qau t u ≠ 0 → r = (qau t u, [])) (h2 : qau t u = 0 → ∃ n, runU n [(t, u)] [] = some r) :
  Calls Tryz.prog 13 #[t.val A c, u.val A' c'] w (qb2 r w) := by
 obtain ⟨V, hV⟩ : ∃ V, V = (w.alloc (boxT t A c)).alloc (boxT u A' c') := ⟨_, rfl⟩;have h2' : Two w t u A A' c c' V := by rw [hV]; exact Two.new _ _ _ _ _ _ _
 have VV := ql6 t u A A' c c' V ht hu (hrt.go h2'.lay.below h2'.lay.size) (hru.go h2'.lay.below h2'.lay.size);obtain ⟨v2, hv2⟩ : ∃ v, v = qau t u := ⟨_, rfl⟩;rw [← hv2] at h1 h2 VV;clear hv2;have H2 := Lib.hid h2';obtain ⟨a0, a1, a2, a3, -⟩ := qad h2'.one;obtain ⟨b0, b1, b2, b3, -⟩ := qad h2'.two;clear h2';simp only [boxT] at hV;have HV := Lib.hid hV; clear hV;have HRT := Lib.hid hrt; clear hrt;have HRU := Lib.hid hru; clear hru;have E1 := Lib.hid h1; clear h1;have E2 := Lib.hid h2; clear h2;simp only [Tm.val] at VV ⊢;have VV := Lib.hid VV;go_enter Tryz.func13, Tryz.ntmps13
 go_wp2_with fail
 rw [← HV.out];go_wp2_with fail
 refine VV.out.mono ?_; clear VV a0 a1 a2 a3 b0 b1 b2 b3;rintro e w1 ⟨rfl, hl1⟩;rcases eq_facts v2 0 with ⟨h0, e0, n0⟩ | ⟨h0, e0, n0⟩
 ·obtain ⟨n, hrun⟩ := E2.out h0;subst h0;clear E1 E2;obtain ⟨a0, a1, a2, a3, -⟩ := qad (H2.out.go hl1).one;obtain ⟨b0, b1, b2, b3, -⟩ := qad (H2.out.go hl1).two;have hl := (H2.out.go hl1).lay;obtain ⟨W2, hW2⟩ : ∃ W2, W2 = w1.alloc (.cells (bCells [((t, A, c), (u, A', c'))]).toArray 57) := ⟨_, rfl⟩;have hx2 : W2.heap[w1.heap.size]? = some (.cells (bCells [((t, A, c), (u, A', c'))]).toArray 57 (0, 0)) := by rw [hW2]; exact heap_alloc_new _ _
  have hb2 : Below w1.heap.size w1 W2 := by rw [hW2]; exact qah (Nat.le_refl _) _
  have hbw : Below w.heap.size w W2 := qac hl.below hb2 hl.size;have hlt : w1.heap.size < W2.heap.size := (Array.getElem?_eq_some_iff.1 hx2).1;have hsz := hl.size;have SO := qmn n [(t, u)] r (some ⟨w1.heap.size, 0, none⟩) 1 W2 (qlq ((t, A, c), (u, A', c')) hx2 hlt (RepP.mono (fun b (h : b < w.heap.size) => by show b < _; omega) (fun p (hp : p.block < w.heap.size) => hbw.cell hp) _ _ _ HRT.out) (RepP.mono (fun b (h : b < w.heap.size) => by show b < _; omega) (fun p (hp : p.block < w.heap.size) => hbw.cell hp) _ _ _ HRU.out)) hrun;have SO := Lib.hid SO;have HBW := Lib.hid hbw; clear hbw hb2 hx2 hl hl1 hrun;simp only [bCells, bits, itCells, Tm.cells, List.cons_append, List.nil_append] at hW2;have HW2 := Lib.hid hW2; clear hW2 hlt;go_wp2_with fail
  rw [← HW2.out];refine SO.out.mono ?_; clear SO;rintro e w5 ⟨A9, c9, rfl, hrep, hb5⟩;have HREP := Lib.hid hrep; clear hrep;have HB5 := Lib.hid (qac HBW.out hb5 HBW.out.size); clear hb5;go_wp2_with fail
  go_ret2
  exact ⟨A9, c9, rfl, HREP.out, HB5.out⟩
 ·have hr := E1.out h0;subst hr;have HL := Lib.hid (H2.out.go hl1).lay; clear hl1 E1 E2;go_wp2_with fail
  go_ret2
  exact qdr h0 HL.out.below
end Go.Proofs.YtpjmdilpldaapaaGreatDoor
namespace Go.Proofs.YtpjmdilpldaapaaGreatDoor
theorem qkj {t u : Tm} (h : qau t u = 0) : t.valid = 0 ∧ u.valid = 0 := by
 unfold qau at h
 split at h
 ·rename_i h1; exact absurd h h1
 ·rename_i h1; exact ⟨by simpa using h1, h⟩
theorem vars_len (t u : Tm) (ht : t.valid = 0) (hu : u.valid = 0) : (qij [(t, u)]).length ≤ 2000 := by
 have h1 := (qay.1 ht).2.1;have h2 := (qay.1 hu).2.1;have h3 : (qij [(t, u)]).length ≤ (t.all ++ u.all).length := by
  unfold qij;refine Nat.le_trans (List.length_filter_le _ _) ?_;simp
 rw [List.length_append, Tm.all_length, Tm.all_length] at h3;omega
theorem qgs (t u : Tm) : ∃ r : Int × List Bd, (qau t u ≠ 0 → r = (qau t u, [])) ∧ (qau t u = 0 → ∃ n, runU n [(t, u)] [] = some r) := by
 by_cases h : qau t u = 0
 ·obtain ⟨h1, h2⟩ := qkj h;obtain ⟨n, r, hr⟩ := start_ex (ps := [(t, u)]) (fun p hp => by rw [List.mem_singleton] at hp; subst hp; exact ⟨h1, h2⟩) (by simp) (vars_len t u h1 h2);exact ⟨r, fun hn => absurd h hn, fun _ => ⟨n, hr⟩⟩
 ·exact ⟨(qau t u, []), fun _ => rfl, fun hn => absurd hn h⟩
end Go.Proofs.YtpjmdilpldaapaaGreatDoor
namespace Go.Proofs.YtpjmdilpldaapaaGreatDoor
open Go.RowKit Go.Sort
set_option maxHeartbeats 1200000 in
theorem qez (l m : List Bd) (A0 A1 : Option Addr) (cap0 cap1 : Nat) (w : World) (hl : qkc l) (hm : qkc m) (hrl : RepB w (fun b => b < w.heap.size) l A0 cap0) (hrm : RepB w (fun b => b < w.heap.size) m A1 cap1) :
  Calls Tryz.prog 14 #[.slice A0 l.length cap0, .slice A1 m.length cap1] w fun e w' => e = .returned (.bool (decide (l = m))) ∧ Lay w.heap.size w w' := by
 have mixed : Tryz.prog.follows .mixedOrders = true := by kernel_rfl
 have h1 := hrl.1;have h2 := hrl.2.1;have h3 := hrm.1;have h4 := hrm.2.1;unfold maxLen at h2 h4;have HRL := Lib.hid hrl; clear hrl;have HRM := Lib.hid hrm; clear hrm;by_cases hne : l.length = m.length
 ·have hnb : ((l.length : Int) != (m.length : Int)) = false := by simp [hne]
  have HL := Lib.hid hl; clear hl;have HNE := Lib.hid hne; clear hne;have HM := Lib.hid hm; clear hm;go_enter Tryz.func14, Tryz.ntmps14
  go_wp2_with fail
  go_loopw [5] (fun i wr => ∃ k : Nat, k ≤ l.length ∧ i = .int .i64 k ∧ Hid (l.take k = m.take k) ∧ Hid (Lay w.heap.size w wr))
   (fun i _ => l.length - (intOf i).toNat)
  case atStart => exact ⟨0, Nat.zero_le _, rfl, rfl, Lay.refl _ _⟩
  case round =>
   obtain ⟨k, hk, rfl, HT, HLW⟩ := hrel;have i1 : (0 : Int) ≤ (k : Int) := Int.natCast_nonneg _;by_cases hlt : k < l.length
   ·have hlt2 : k < m.length := by have := HNE.out; omega
    have i2 : (k : Int) < (l.length : Int) := by omega
    have i3 : (k : Int) < (m.length : Int) := by omega
    rcases HRL.out.2.2 with h | ⟨b, off, hA0, hbB, hlp⟩
    ·rw [h] at hlt; simp at hlt
    rcases HRM.out.2.2 with h | ⟨b', off', hA1, hbB', hmp⟩
    ·rw [h] at hlt2; simp at hlt2
    subst hA0 hA1;have hss := HLW.out.size;obtain ⟨A, c, A', c', h8⟩ := (show qal wr (fun b => b < w.heap.size) (flat l) b off from qal.mono (fun _ h => h) (fun p hp => HLW.out.below.cell hp) _ _ _ hbB hlp).get8 k hlt;obtain ⟨C, d, C', d', g8⟩ := (show qal wr (fun b => b < w.heap.size) (flat m) b' off' from qal.mono (fun _ h => h) (fun p hp => HLW.out.below.cell hp) _ _ _ hbB' hmp).get8 k hlt2;have lift : ∀ (y : Tm) B e, RepP wr (fun b => b < w.heap.size) y B e → RepT wr wr.heap.size y B e := fun y B e h => RepP.mono (fun b (h : b < w.heap.size) => Nat.lt_of_lt_of_le h hss) (fun _ _ => rfl) _ _ _ h;have C1 : Hid (∀ X, Lay wr.heap.size wr X → Calls Tryz.prog 15 #[l[k].1.val A c, m[k].1.val C d] X fun e w' => e = .returned (.bool (l[k].1.same m[k].1)) ∧ Lay X.heap.size X w') := Lib.hid fun X hX =>
     qdc _ _ _ _ _ _ X (HL.out _ (List.getElem_mem _)).1 (HM.out _ (List.getElem_mem _)).1 ((lift _ _ _ h8.r1).go hX.below hX.size) ((lift _ _ _ g8.r1).go hX.below hX.size)
    have C2 : Hid (∀ X, Lay wr.heap.size wr X → Calls Tryz.prog 15 #[l[k].2.val A' c', m[k].2.val C' d'] X fun e w' => e = .returned (.bool (l[k].2.same m[k].2)) ∧ Lay X.heap.size X w') := Lib.hid fun X hX =>
     qdc _ _ _ _ _ _ X (HL.out _ (List.getElem_mem _)).2 (HM.out _ (List.getElem_mem _)).2 ((lift _ _ _ h8.r2).go hX.below hX.size) ((lift _ _ _ g8.r2).go hX.below hX.size)
    obtain ⟨q1, hq1⟩ : ∃ c, c = l[k].1.same m[k].1 := ⟨_, rfl⟩;obtain ⟨q2, hq2⟩ : ∃ c, c = l[k].2.same m[k].2 := ⟨_, rfl⟩;rw [← hq1] at C1;rw [← hq2] at C2;have HQ1 := Lib.hid hq1; clear hq1;have HQ2 := Lib.hid hq2; clear hq2;have hcell : ∀ n os o, (grow (wr.drewN n) os).cell? ⟨b, o, none⟩ = wr.cell? ⟨b, o, none⟩ := fun n os o => (Lay.of_grow (w := wr) n os).below.cell (by show b < _; omega);have hcell' : ∀ n os o, (grow (wr.drewN n) os).cell? ⟨b', o, none⟩ = wr.cell? ⟨b', o, none⟩ := fun n os o => (Lay.of_grow (w := wr) n os).below.cell (by show b' < _; omega);have p0 := fun n os => (hcell n os _).trans h8.c0;have p1 := fun n os => (hcell n os _).trans h8.c1;have p2 := fun n os => (hcell n os _).trans h8.c2;have p3 := fun n os => (hcell n os _).trans h8.c3;have p4 := fun n os => (hcell n os _).trans h8.c4;have p5 := fun n os => (hcell n os _).trans h8.c5
    have p6 := fun n os => (hcell n os _).trans h8.c6;have p7 := fun n os => (hcell n os _).trans h8.c7;have y0 := fun n os => (hcell' n os _).trans g8.c0;have y1 := fun n os => (hcell' n os _).trans g8.c1;have y2 := fun n os => (hcell' n os _).trans g8.c2;have y3 := fun n os => (hcell' n os _).trans g8.c3;have y4 := fun n os => (hcell' n os _).trans g8.c4;have y5 := fun n os => (hcell' n os _).trans g8.c5;have y6 := fun n os => (hcell' n os _).trans g8.c6;have y7 := fun n os => (hcell' n os _).trans g8.c7;obtain ⟨a0, a1, a2, a3, a4, a5, a6, a7, -, -⟩ := h8;obtain ⟨b0, b1, b2, b3, b4, b5, b6, b7, -, -⟩ := g8;clear lift hlp hmp hcell hcell';have HSS := Lib.hid hss; clear hss;simp only [Tm.val] at C1 C2
    cases q1 with
    | false =>
     have HE := Lib.hid (qey (l := l) (m := m) (fun e => by subst e; exact (Tm.same_false.1 HQ1.out.symm) rfl));go_wp2_with fail
     refine wp_region_quiet_grown (by assumption) (by kernel_rfl) (of_WQ ?_)
     iterate 13
      refine qf2 (fun K hK => ?_);go_simp
      first
       | (refine hK _ ?_; clear hK K)
       | (apply Exists.intro
          refine ⟨fun _ => ?_, hK _ ?_⟩
          (go_at_call 15; with_reducible exact qaj (C1.out _ (Lay.of_grow _ _)))
          clear hK K)
     iterate 12 (refine WQ_skip rfl ?_; simp only [Act.put, List.setIfInBounds_toArray, List.set_cons_succ, List.set_cons_zero])
     refine qf2 (fun K hK => ?_);go_simp
     first
      | (refine hK _ ?_; clear hK K)
      | (apply Exists.intro
         refine ⟨fun _ => ?_, hK _ ?_⟩
         (fail)
         clear hK K)
     refine WQ_nil ?_;intro _ hw';obtain ⟨⟨nq, osq⟩, hw''⟩ := hw';subst hw'';go_wp2_with fail
     go_ret
     exact ⟨by rw [HE.out]; rfl, HLW.out.trans ((Lay.of_grow _ _).mono HSS.out)⟩
    | true =>
     cases q2 with
     | false =>
      have HE := Lib.hid (qey (l := l) (m := m) (fun e => by subst e; exact (Tm.same_false.1 HQ2.out.symm) rfl));go_wp2_with fail
      refine wp_region_quiet_grown (by assumption) (by kernel_rfl) (of_WQ ?_)
      iterate 11
       refine qf2 (fun K hK => ?_);go_simp
       first
        | (refine hK _ ?_; clear hK K)
        | (apply Exists.intro
           refine ⟨fun _ => ?_, hK _ ?_⟩
           (go_at_call 15; with_reducible exact qaj (C1.out _ (Lay.of_grow _ _)))
           clear hK K)
      iterate 15
       refine qf2 (fun K hK => ?_);go_simp
       first
        | (refine hK _ ?_; clear hK K)
        | (apply Exists.intro
           refine ⟨fun _ => ?_, hK _ ?_⟩
           (go_at_call 15; with_reducible exact qaj (C2.out _ (Lay.of_grow _ _)))
           clear hK K)
      refine WQ_nil ?_;intro _ hw';obtain ⟨⟨nq, osq⟩, hw''⟩ := hw';subst hw'';go_wp2_with fail
      go_ret
      exact ⟨by rw [HE.out]; rfl, HLW.out.trans ((Lay.of_grow _ _).mono HSS.out)⟩
     | true =>
      have HK : Hid (l[k] = m[k]) := Prod.ext (Tm.same_iff.1 HQ1.out.symm) (Tm.same_iff.1 HQ2.out.symm);go_wp2_with fail
      refine wp_region_quiet_grown (by assumption) (by kernel_rfl) (of_WQ ?_)
      iterate 11
       refine qf2 (fun K hK => ?_);go_simp
       first
        | (refine hK _ ?_; clear hK K)
        | (apply Exists.intro
           refine ⟨fun _ => ?_, hK _ ?_⟩
           (go_at_call 15; with_reducible exact qaj (C1.out _ (Lay.of_grow _ _)))
           clear hK K)
      iterate 15
       refine qf2 (fun K hK => ?_);go_simp
       first
        | (refine hK _ ?_; clear hK K)
        | (apply Exists.intro
           refine ⟨fun _ => ?_, hK _ ?_⟩
           (go_at_call 15; with_reducible exact qaj (C2.out _ (Lay.of_grow _ _)))
           clear hK K)
      refine WQ_nil ?_;intro _ hw';obtain ⟨⟨nq, osq⟩, hw''⟩ := hw';subst hw'';go_wp2_with fail
      go_roundw
      case rel => exact ⟨k + 1, by omega, by go_num, (by show l.take (k + 1) = m.take (k + 1); rw [List.take_succ_eq_append_getElem hlt, List.take_succ_eq_append_getElem hlt2, HT.out, HK.out]), HLW.out.trans ((Lay.of_grow _ _).mono HSS.out)⟩
      case measure => simp [intOf]; omega
   ·obtain rfl : k = l.length := by omega
    have e : l = m := by have h := HT.out; rwa [List.take_length, HNE.out, List.take_length] at h
    have HE : Hid (decide (l = m) = true) := decide_eq_true e;clear e;go_wp2_with fail
    go_ret
    exact ⟨by rw [HE.out]; rfl, HLW.out⟩
 ·have hnb : ((l.length : Int) != (m.length : Int)) = true := by simp; omega
  rw [qey (fun e => hne (by rw [e]))];go_enter Tryz.func14, Tryz.ntmps14
  go_wp2_with fail
  go_ret
  exact ⟨rfl, Lay.refl _ _⟩
end Go.Proofs.YtpjmdilpldaapaaGreatDoor
