/- Ugenl (joined by shake.py). -/
import Derived.Test.YtpjmdilpldaapaaGreatDoorK13
import Derived.Test.YtpjmdilpldaapaaGreatDoorK14
set_option maxRecDepth 100000
namespace Go.Proofs.YtpjmdilpldaapaaGreatDoor
open Go.RowKit Go.Sort Go.Maps
theorem qhi {N N' : List ByteArray} (h : ∀ x, x ∈ N ↔ x ∈ N') (t u : Tm) (g : Gs) : newG N t u g = newG N' t u g ∧ addG N t u g = addG N' t u g := by
 have hn : newG N t u g = newG N' t u g := by unfold newG; rw [qft h]
 refine ⟨hn, ?_⟩;unfold addG;rw [hn, qft h]
theorem qkm {N N' : List ByteArray} (h : ∀ x, x ∈ N ↔ x ∈ N') (t u : Tm) (g : Gs) : qbz N t u g = qbz N' t u g := by
 unfold qbz;rw [(qhi h t u g).1, (qhi h t u g).2]
mutual
theorem qgv {N N' : List ByteArray} (h : ∀ x, x ∈ N ↔ x ∈ N') : ∀ (t u : Tm) (g : Gs), t.gen N u g = t.gen N' u g
 | .mk k n s l, u, g => by rw [Tm.gen, Tm.gen, qhs h l u.kids g, qkm h]
theorem qhs {N N' : List ByteArray} (h : ∀ x, x ∈ N ↔ x ∈ N') : ∀ (l m : List Tm) (g : Gs), Tm.gens N l m g = Tm.gens N' l m g
 | [], m, g => by cases m <;> (rw [Tm.gens, Tm.gens] <;> simp)
 | t :: l, [], g => by rw [Tm.gens, Tm.gens] <;> simp
 | t :: l, u :: m, g => by rw [Tm.gens, Tm.gens, qgv h t u g, qhs h l m _]
end
theorem qdf {t u : Tm} (h : qbd t u = 0) : t.valid = 0 ∧ u.valid = 0 := by
 unfold qbd at h
 split at h
 ·rename_i h1; exact absurd h h1
 ·rename_i h1; exact ⟨by simpa using h1, h⟩
def varsOf (t : Tm) : List Tm := Tm.set (t.all.filter fun u => u.kind == 1)
def qdr (t u : Tm) : List Tm := varsOf t ++ varsOf u
theorem qiz (t u : Tm) (x : ByteArray) : x ∈ (qdr t u).map Tm.name ↔ x ∈ qdg t u := by
 unfold qdr qdg qhj varsOf;simp only [List.map_append, List.mem_append, List.mem_map, Tm.mem_set, List.mem_filter, beq_iff_eq, decide_eq_true_eq]
theorem qce (t : Tm) : (varsOf t).length ≤ t.size := by
 unfold varsOf;refine Nat.le_trans (Tm.set_length _) (Nat.le_trans (List.length_filter_le _ _) ?_);rw [qeq]; exact Nat.le_refl _
theorem qhv (t u : Tm) : (t.gen ((qdr t u).map Tm.name) u gs0).1 = genE t u := by
 unfold genE;rw [qgv (qiz t u)]
mutual
theorem check_all : ∀ t : Tm, t.check = 0 → ∀ x ∈ t.all, x.check = 0
 | .mk k n s l, h, x, hx => by
  rw [Tm.all] at hx;rcases List.mem_cons.1 hx with rfl | hx
  ·exact h
  ·rcases qc4 h with ⟨-, rfl⟩ | ⟨-, -, hc⟩
   ·simp [Tm.alls] at hx
   ·exact qh2 l hc x hx
theorem qh2 : ∀ l : List Tm, Tm.checks l = 0 → ∀ x ∈ Tm.alls l, x.check = 0
 | [], _, x, hx => by simp [Tm.alls] at hx
 | t :: r, h, x, hx => by
  rw [Tm.alls, List.mem_append] at hx;obtain ⟨h1, h2⟩ := qcn h;rcases hx with hx | hx
  ·exact check_all t h1 x hx
  ·exact qh2 r h2 x hx
end
theorem qel {t : Tm} (h : t.valid = 0) : ∀ x ∈ varsOf t, x.kids = [] ∧ qbl x := by
 intro x hx;unfold varsOf at hx;rw [Tm.mem_set, List.mem_filter] at hx;exact check_keyable (check_all t (check_valid h) x hx.1) (by simpa using hx.2)
theorem qgj {w : World} {base : Nat} {F : Nat → Prop} {v : Value} {its : List It} (h : RowT w base F v its) (hl : ∀ x ∈ its, x.1.kids = []) : RowT w base (fun _ => False) v its := by
 refine ⟨h.own, fun x hx => ?_⟩;have hr := h.reps x hx;have hk := hl x hx;obtain ⟨⟨a1, a2, a3, a4⟩, A, c⟩ := x;have hk : a4 = [] := hk;subst hk;dsimp only at hr ⊢;rw [qa7] at hr ⊢;exact ⟨hr.1, hr.2.1, hr.2.2.1, .inl rfl⟩
structure Box3 (w : World) (o1 o2 o3 : Obj) (Z : World) : Prop where
 one : Z.heap[w.heap.size]? = some o1
 two : Z.heap[w.heap.size + 1]? = some o2
 three : Z.heap[w.heap.size + 1 + 1]? = some o3
 bel : Below w.heap.size w Z
theorem Box3.lt {w Z : World} {o1 o2 o3 : Obj} (h : Box3 w o1 o2 o3 Z) : w.heap.size + 3 ≤ Z.heap.size := (Array.getElem?_eq_some_iff.1 h.three).1
theorem Box3.keep {w Z Z' : World} {o1 o2 o3 : Obj} (h : Box3 w o1 o2 o3 Z) (hb : ∀ k, k < w.heap.size + 3 → w.heap.size ≤ k → Z'.heap[k]? = Z.heap[k]?) (hbel : Below w.heap.size w Z') : Box3 w o1 o2 o3 Z' :=
 ⟨(hb _ (by omega) (by omega)).trans h.one, (hb _ (by omega) (by omega)).trans h.two, (hb _ (by omega) (by omega)).trans h.three, hbel⟩
theorem Box3.go {w Z Z' : World} {o1 o2 o3 : Obj} (h : Box3 w o1 o2 o3 Z) (hb : Below Z.heap.size Z Z') : Box3 w o1 o2 o3 Z' :=
 h.keep (fun k hk _ => hb.block k (by have := h.lt; omega)) (h.bel.trans (hb.mono (by have := h.lt; omega)))
theorem Box3.new (w : World) (o1 o2 o3 : Obj) (h1 : ∀ W : World, (W.alloc o1).heap[W.heap.size]? = some o1) (h2 : ∀ W : World, (W.alloc o2).heap[W.heap.size]? = some o2) (h3 : ∀ W : World, (W.alloc o3).heap[W.heap.size]? = some o3) : Box3 w o1 o2 o3 (((w.alloc o1).alloc o2).alloc o3) := by
 have b1 := qaf (Nat.le_refl w.heap.size) o1;have b2 := qaf (Nat.le_refl (w.alloc o1).heap.size) o2;have b3 := qaf (Nat.le_refl ((w.alloc o1).alloc o2).heap.size) o3;have s1 : (w.alloc o1).heap.size = w.heap.size + 1 := by simp
 have s2 : ((w.alloc o1).alloc o2).heap.size = w.heap.size + 1 + 1 := by simp
 refine ⟨(b3.block _ (by omega)).trans ((b2.block _ (by omega)).trans (h1 w)), (b3.block _ (by omega)).trans ?_, ?_, ?_⟩
 ·rw [← s1]; exact h2 _
 ·rw [← s2]; exact h3 _
 ·exact b1.trans ((b2.mono (by omega)).trans (b3.mono (by omega)))
def genR (t u : Tm) : Tm × Int := if qbd t u ≠ 0 then (.mk 0 ⟨#[]⟩ 0 [], qbd t u) else (genE t u, 0)
def Genl (r : Tm × Int) (w : World) (e : Ending) (w' : World) : Prop := ∃ A c, e = .returned (.tuple #[r.1.val A c, .int .i64 r.2]) ∧ RepT w' w'.heap.size r.1 A c ∧ Below w.heap.size w w'
theorem qe6 {w Y : World} {r : Tm × Int} {A : Option Addr} {c b : Nat} (hB : Below w.heap.size w Y) (hb : w.heap.size ≤ b) (hrep : RepP Y (fun k => k < Y.heap.size ∧ k ≠ b) r.1 A c) {x y z v : Value} :
  Genl r w (.returned (.tuple #[r.1.val A c, .int .i64 r.2])) ((((Y.setCell ⟨b, 0, none⟩ x).setCell ⟨b, 1, none⟩ y).setCell ⟨b, 2, none⟩ z).setCell ⟨b, 3, none⟩ v) := by
 refine ⟨A, c, rfl, ?_, ?_⟩
 ·refine RepP.mono ?_ ?_ _ _ _ hrep
  ·rintro k ⟨h1, -⟩;simpa [World.setCell] using h1
  ·intro q h1;have hne : q.block ≠ b := h1.2;have hq : ∀ o, (⟨b, o, none⟩ : Addr) ≠ q := fun o e => by rw [← e] at hne; exact hne rfl
   rw [World.cell?_setCell_other _ _ _ _ (hq _), World.cell?_setCell_other _ _ _ _ (hq _), World.cell?_setCell_other _ _ _ _ (hq _), World.cell?_setCell_other _ _ _ _ (hq _)]
 ·iterate 4 refine Below.setCell ?_ (by exact hb) _
  exact hB
theorem qix {w w' : World} {o : Oper} {a : Act} {K : Act → World → Prop} {Q : Exit → Act → World → Prop} {m k x : Value} (_hgd : o.guard = none) (t : TypeId) (om ok ox : Operand)
  (ho : o.op = .mapUpdate t om ok ox) (hm : a.eval om = m) (hk : a.eval ok = k) (hx : a.eval ox = x) (hrun : (Instr.mapUpdate t m k x).run Tryz.prog w = .ok () w') (h : K (a.put o.dst undef) w') : Oper.wp Tryz.prog o a w K Q := by
 unfold Oper.wp;simp [execOp, ho, hm, hk, hx, hrun, Result.andThen];exact h
structure GlAt (w : World) (o1 o2 o3 : Obj) (mb : Nat) (L : List Tm) (its : List It) (A : Option Addr) (c base k : Nat) (Z : World) : Prop where
 box : Box3 w o1 o2 o3 Z
 cell : Z.heap[mb + 1]? = some (qju mb 0 (.slice none 0 0) (.slice none 0 0))
 set : qc5 Z mb k ((L.take k).map Tm.name)
 row : RowT Z base (fun _ => False) (.slice A L.length c) its
 is : its.map (·.1) = L
section
variable {w Z Z' : World} {o1 o2 o3 : Obj} {mb : Nat} {L : List Tm} {its : List It} {A : Option Addr} {c base k : Nat}
theorem GlAt.go (h : GlAt w o1 o2 o3 mb L its A c base k Z) (hb : Below Z.heap.size Z Z') : GlAt w o1 o2 o3 mb L its A c base k Z' :=
 ⟨h.box.go hb, (hb.block _ (Array.getElem?_eq_some_iff.1 h.cell).1).trans h.cell, h.set.keep (hb.block _ h.set.lt), h.row.below hb, h.is⟩
theorem GlAt.turn (h : GlAt w o1 o2 o3 mb L its A c base k Z) (hw : w.heap.size + 3 ≤ mb) (hbase : mb + 1 < base) (hk : k < L.length) (hset : qc5 Z' mb (k + 1) (L[k].name :: (L.take k).map Tm.name)) (ht : Z.mapTurned Z' mb) : GlAt w o1 o2 o3 mb L its A c base (k + 1) Z' := by
 have hs := ht.grown.size;have hk2 : ∀ j, j < Z.heap.size → j ≠ mb → Z'.heap[j]? = Z.heap[j]? := fun j hj hne => ht.grown.block j hj (fun e => by injection e with e; exact hne e);have hl := h.box.lt;refine ⟨h.box.keep (fun j h1 h2 => hk2 j (by omega) (by omega)) (h.box.bel.grown ht.grown (by omega) (fun j e => by injection e with e; omega)), (hk2 _ (Array.getElem?_eq_some_iff.1 h.cell).1 (by omega)).trans h.cell, hset.congr fun s => ?_, qbb h.row hs (fun j e => hk2 j (h.row.lt j e).2 (by have := (h.row.lt j e).1; omega)) (fun b hb => False.elim hb), h.is⟩;rw [List.take_succ_eq_append_getElem hk, List.map_append, List.mem_cons, List.mem_append];simp only [List.map_cons, List.map_nil, List.mem_singleton];exact or_comm
end
set_option maxHeartbeats 4000000 in
theorem qbp (t u : Tm) (T U : Option Addr) (ct cu : Nat) (w0 w : World) (M : Nat) (HI : qb7 M w0) (h0 : Below w0.heap.size w0 w) (hM : M ≤ 1000000) (hMb : qbd t u = 0 → ((qdr t u).length + 1) * t.size < M) (ht : t.size ≤ 1000000) (hu : u.size ≤ 1000000)
  (hrt : RepT w w.heap.size t T ct) (hru : RepT w w.heap.size u U cu) :
  Calls Tryz.prog 25 #[t.val T ct, u.val U cu] w (Genl (genR t u) w) := by
 have mixed : Tryz.prog.follows .mixedOrders = true := by kernel_rfl
 have hmm := @run_makeMap Tryz.prog;obtain ⟨V, hV⟩ : ∃ V, V = ((w.alloc (boxT t T ct)).alloc (boxT u U cu)).alloc (.cells #[.int .i64 0, .string ⟨#[]⟩, .int .i64 0, .slice none 0 0] 24) := ⟨_, rfl⟩;have h3 : Box3 w (boxT t T ct) (boxT u U cu) (.cells #[.int .i64 0, .string ⟨#[]⟩, .int .i64 0, .slice none 0 0] 24 (0, 0)) V := by
  rw [hV]; exact Box3.new w _ _ _ (fun W => heap_alloc_new _ _) (fun W => heap_alloc_new _ _) (fun W => heap_alloc_new _ _)
 have hup : ∀ (Z : World) (y : Tm) (Y : Option Addr) (cy : Nat), Below w.heap.size w Z → RepT w w.heap.size y Y cy → RepT Z Z.heap.size y Y cy := fun Z y Y cy hZ h => h.go hZ hZ.size;have VV := qff t u T U ct cu V ht hu (hup V _ _ _ h3.bel hrt) (hup V _ _ _ h3.bel hru);obtain ⟨v2, hv2⟩ : ∃ v, v = qbd t u := ⟨_, rfl⟩;obtain ⟨r, hr⟩ : ∃ r, r = genR t u := ⟨_, rfl⟩;rw [← hr];unfold genR at hr;rw [← hv2] at VV hr hMb;have HR := Lib.hid hr; clear hr;have HV2 := Lib.hid hv2; clear hv2;have H3 := Lib.hid h3; clear h3;have HUP := Lib.hid hup; clear hup;have HRT := Lib.hid hrt; clear hrt;have HRU := Lib.hid hru; clear hru;have HII := Lib.hid HI; clear HI;have HW0 := Lib.hid h0; clear h0;have HMB := Lib.hid hMb; clear hMb;simp only [boxT] at hV;have HV := Lib.hid hV; clear hV;obtain ⟨a0, a1, a2, a3, -⟩ := qam t (H3.out.one);obtain ⟨b0, b1, b2, b3, -⟩ := qam u (H3.out.two)
 simp only [Tm.val] at VV ⊢;have VV := Lib.hid VV;go_enter Tryz.func25, Tryz.ntmps25
 go_wp2_with fail
 rw [← HV.out];go_wp2_with fail
 refine VV.out.mono ?_; clear VV a0 a1 a2 a3 b0 b1 b2 b3;rintro e w1 ⟨rfl, hl1⟩;have H4 := Lib.hid (H3.out.go hl1.below); clear H3 hl1;obtain ⟨z0, z1, z2, z3, zf⟩ := qad H4.out.three;rcases eq_facts v2 0 with ⟨e0, e1, n1⟩ | ⟨e0, e1, n1⟩
 rotate_left
 ·have hr := HR.out.trans (if_pos e0);have HR2 := Lib.hid hr; clear HR hr;go_wp2_with fail
  refine bodyPost_ret (v := .tuple #[.agg #[.int .i64 0, .string ⟨#[]⟩, .int .i64 0, .slice none 0 0], .int .i64 v2]) ?_ rfl ?_
  ·simp [results, Tryz.results25, go_sem, z0, z1, z2, z3]
  rw [HR2.out];exact qe6 (r := (.mk 0 ⟨#[]⟩ 0 [], v2)) (A := none) (c := 0) H4.out.bel (by omega) (qf1 _ _ _ (Nat.zero_le _))
 have hvt := qdf (HV2.out.symm.trans e0);have hMB := HMB.out e0;have hr := HR.out.trans (if_neg (by simpa using e0));have HR2 := Lib.hid hr; clear HR hr HMB;clear e0;have hlt4 := H4.out.lt;obtain ⟨W1, hW1⟩ : ∃ W1, W1 = w1.alloc (.map #[] 0) := ⟨_, rfl⟩;have bW1 : Below w1.heap.size w1 W1 := by rw [hW1]; exact qaf (Nat.le_refl _) _
 have sW1 : W1.heap.size = w1.heap.size + 1 := by rw [hW1]; simp
 have iW1 : qc5 W1 w1.heap.size 0 [] := by rw [hW1]; exact qc5.made w1
 obtain ⟨W2, hW2⟩ : ∃ W2, W2 = W1.alloc (.cells #[.map (some w1.heap.size), .int .i64 0, .slice none 0 0, .slice none 0 0] 73) := ⟨_, rfl⟩;have bW2 : Below W1.heap.size W1 W2 := by rw [hW2]; exact qaf (Nat.le_refl _) _
 have sW2 : W2.heap.size = w1.heap.size + 1 + 1 := by rw [hW2]; simp [sW1]
 have cW2 : W2.heap[w1.heap.size + 1]? = some (qju w1.heap.size 0 (.slice none 0 0) (.slice none 0 0)) := by rw [hW2, ← sW1]; exact heap_alloc_new _ _
 have b12 : Below w1.heap.size w1 W2 := qae bW1 bW2 bW1.size;have HWE : Hid (W2 = (w1.alloc (.map #[] 0)).alloc (.cells #[.map (some w1.heap.size), .int .i64 0, .slice none 0 0, .slice none 0 0] 73)) := by rw [hW2, hW1]; exact rfl
 have H5 := Lib.hid (H4.out.go b12); clear H4;have HST := Lib.hid (iW1.keep (bW2.block _ (by omega))); clear iW1;have HCL := Lib.hid cW2; clear cW2 hW1 hW2 bW1 bW2 b12 sW1;clear z0 z1 z2 z3 zf;go_wp2_with fail
 rw [← HWE.out];obtain ⟨mb, hmb⟩ : ∃ mb, mb = w1.heap.size := ⟨_, rfl⟩;rw [← hmb] at hlt4 sW2 HST HCL ⊢;clear HWE hmb;refine qal (fun _ => True) (fun Y => Below W2.drew.heap.size W2.drew Y) [] (.held 0 (.held 2 (.held 7 (.op 1 (.op 3 (.op 4 (.op 5 (.op 6 .nil)))))))) mixed (by kernel_rfl) ?_;have H6 := Lib.hid (H5.out.go (Z' := W2.drew) (Below.refl _ _).drew); clear H5;have HST2 : Hid (qc5 W2.drew mb 0 []) := HST.out.keep rfl;have HCL2 : Hid (W2.drew.heap[mb + 1]? = some (qju mb 0 (.slice none 0 0) (.slice none 0 0))) := HCL.out;have sD : W2.drew.heap.size = mb + 1 + 1 := sW2;clear HST HCL sW2;generalize W2.drew = D at *;obtain ⟨a0, a1, a2, a3, -⟩ := qam t (H6.out.one);obtain ⟨b0, b1, b2, b3, -⟩ := qam u (H6.out.two)
 refine qaa (v := .agg #[.int .i64 t.kind, .string t.name, .int .i64 t.sort, .slice T t.kids.length ct]) rfl rfl rfl (fun _ _ _ h => h) trivial (Below.refl _ _) (fun Y _ hY => by
  have z0 := (hY.cell (p := ⟨w.heap.size, 0, none⟩) (by show w.heap.size < _; omega)).trans a0;have z1 := (hY.cell (p := ⟨w.heap.size, 1, none⟩) (by show w.heap.size < _; omega)).trans a1;have z2 := (hY.cell (p := ⟨w.heap.size, 2, none⟩) (by show w.heap.size < _; omega)).trans a2;have z3 := (hY.cell (p := ⟨w.heap.size, 3, none⟩) (by show w.heap.size < _; omega)).trans a3
  (try simp only [Act.put]); go_simp) ?_
 refine qaa (v := .agg #[.int .i64 u.kind, .string u.name, .int .i64 u.sort, .slice U u.kids.length cu]) rfl rfl rfl (fun _ _ _ h => h) trivial (Below.refl _ _) (fun Y _ hY => by
  have z0 := (hY.cell (p := ⟨w.heap.size + 1, 0, none⟩) (by show w.heap.size + 1 < _; omega)).trans b0;have z1 := (hY.cell (p := ⟨w.heap.size + 1, 1, none⟩) (by show w.heap.size + 1 < _; omega)).trans b1;have z2 := (hY.cell (p := ⟨w.heap.size + 1, 2, none⟩) (by show w.heap.size + 1 < _; omega)).trans b2;have z3 := (hY.cell (p := ⟨w.heap.size + 1, 3, none⟩) (by show w.heap.size + 1 < _; omega)).trans b3
  (try simp only [Act.put]); go_simp) ?_
 refine qaa (v := .int .i64 0) rfl rfl rfl (fun _ _ _ h => h) trivial (Below.refl _ _) (fun Y _ hY => by
  (try simp only [Act.put]); go_simp) ?_
 simp only [Act.put, List.setIfInBounds_toArray];clear a0 a1 a2 a3 b0 b1 b2 b3;have V1 := qia t T ct D ht (HUP.out D _ _ _ H6.out.bel HRT.out);simp only [Tm.val] at V1;have V1 := Lib.hid V1;refine qab rfl rfl (fun K hK => ?_);go_wp2_with fail
 refine V1.out.mono ?_; clear V1;rintro e w5 ⟨v5, its5, rfl, hrow5, hb5, his5⟩;refine hK _ _ ⟨⟨fun _ => trivial, hb5⟩, ?_⟩;clear hK K;have H7 := Lib.hid (H6.out.go hb5);have V2 := qia u U cu w5 hu (HUP.out w5 _ _ _ H7.out.bel HRU.out);simp only [Tm.val] at V2;have V2 := Lib.hid V2;refine qab rfl rfl (fun K hK => ?_);go_wp2_with fail
 refine V2.out.mono ?_; clear V2;rintro e w6 ⟨v6, its6, rfl, hrow6, hb6, his6⟩;have hb56 := qae hb5 hb6 hb5.size;refine hK _ _ ⟨⟨fun _ => trivial, hb56⟩, ?_⟩;clear hK K;obtain ⟨A5, c5, hv5, hS5⟩ := (hrow5.below hb6).toS (P := fun b => b < w6.heap.size) (fun b _ h => h) (fun b _ h => h);obtain ⟨A6, c6, hv6, hS6⟩ := hrow6.toS (P := fun b => b < w6.heap.size) (fun b _ h => h) (fun b _ h => h);rw [his5] at hS5;rw [his6] at hS6;subst hv5 hv6;have hl5 : its5.length = (varsOf t).length := by rw [← List.length_map (f := (·.1)), his5]; rfl
 have hl6 : its6.length = (varsOf u).length := by rw [← List.length_map (f := (·.1)), his6]; rfl
 have hvl5 := qce t;have hvl6 := qce u;have ht4 := qah hvt.1;have hu4 := qah hvt.2;obtain ⟨W7, hW7⟩ : ∃ W7, W7 = w6.alloc (.cells #[.slice A5 its5.length c5, .slice A6 its6.length c6] 22) := ⟨_, rfl⟩;have bW7 : Below w6.heap.size w6 W7 := by rw [hW7]; exact qaf (Nat.le_refl _) _
 have cW7 : W7.heap[w6.heap.size]? = some (.cells #[.slice A5 (varsOf t).length c5, .slice A6 (varsOf u).length c6] 22 (0, 0)) := by rw [hW7, ← hl5, ← hl6]; exact heap_alloc_new _ _
 have sW7 : W7.heap.size = w6.heap.size + 1 := by rw [hW7]; simp
 have CC := qm1 (varsOf t) (varsOf u) A5 A6 c5 c6 w6.heap.size W7 (by omega) (by omega) cW7 (RepS.mono (fun b (h : b < _) => by omega) (fun p hp => bW7.cell hp) hS5) (RepS.mono (fun b (h : b < _) => by omega) (fun p hp => bW7.cell hp) hS6);obtain ⟨L, hL⟩ : ∃ L, L = qdr t u := ⟨_, rfl⟩;have hLe : varsOf t ++ varsOf u = L := hL.symm;rw [hLe] at CC;have CC := Lib.hid CC;have HL := Lib.hid hL; clear hL hLe;have HW7 := Lib.hid hW7; clear hW7;have hbD7 := qae hb56 bW7 hb56.size;have H8 := Lib.hid (H6.out.go hbD7); clear H6 H7;clear cW7 hS5 hS6 hl5 hl6 his5 his6 hrow5 hrow6 bW7;refine qab rfl rfl (fun K hK => ?_);go_wp2_with fail
 rw [← HW7.out];refine ⟨⟨fun _ => trivial, hbD7⟩, ?_⟩;clear HW7;refine qab rfl rfl (fun K hK => ?_);go_wp2_with fail
 refine CC.out.mono ?_; clear CC;rintro e w8 ⟨A8, c8, its8, rfl, hrow8, his8, hb8⟩;have hbD8 := qae hbD7 hb8 hbD7.size;refine hK _ _ ⟨⟨fun _ => trivial, hbD8⟩, ?_⟩;clear hK K;refine qab rfl rfl (fun K hK => ?_);go_wp2_with fail
 refine ⟨⟨fun _ => trivial, hbD8⟩, qap ?_⟩;have hleaf : ∀ x ∈ L, x.kids = [] ∧ qbl x := fun x hx => by
  rw [HL.out] at hx;rcases List.mem_append.1 hx with h | h
  ·exact qel hvt.1 x h
  ·exact qel hvt.2 x h
 have hLl : L.length ≤ 800 := by rw [HL.out]; unfold qdr; rw [List.length_append]; omega
 rw [← HL.out] at hMB;have hrowL := qgj hrow8 (fun x hx => (hleaf x.1 (by rw [← his8]; exact List.mem_map_of_mem hx)).1);have hs7 : mb + 1 < W7.heap.size := by have := hbD7.size; omega
 have hGL : GlAt w (boxT t T ct) (boxT u U cu) (.cells #[.int .i64 0, .string ⟨#[]⟩, .int .i64 0, .slice none 0 0] 24 (0, 0)) mb L its8 A8 c8 W7.heap.size 0 w8 :=
  ⟨H8.out.go hb8, (hbD8.block _ (by omega)).trans HCL2.out, HST2.out.keep (hbD8.block _ (by omega)), hrowL, his8⟩
 obtain ⟨base, hbase⟩ : ∃ base, base = W7.heap.size := ⟨_, rfl⟩;rw [← hbase] at hGL hs7;have HGL := Lib.hid hGL;have HLF := Lib.hid hleaf; clear hleaf;have HMB := Lib.hid hMB;have HVT := Lib.hid hvt;clear hGL hMB hvt hrowL hrow8 his8 hb8 hbD8 hbD7 hb56 hb6 hb5 H8 HST2 HCL2 hbase sW7 sD hvl5 hvl6;go_wp2_with fail
 go_loopw [27] (fun i wr => ∃ k : Nat, k ≤ L.length ∧ i = .int .i64 k ∧ Hid (GlAt w (boxT t T ct) (boxT u U cu) (.cells #[.int .i64 0, .string ⟨#[]⟩, .int .i64 0, .slice none 0 0] 24 (0, 0)) mb L its8 A8 c8 base k wr)) (fun i _ => L.length - (intOf i).toNat)
 case atStart => exact ⟨0, Nat.zero_le _, rfl, HGL.out⟩
 case round =>
  clear HGL;obtain ⟨k, hk, rfl, HG⟩ := hrel;have i1 : (0 : Int) ≤ (k : Int) := Int.natCast_nonneg _;by_cases hlt : k < L.length
  ·have i2 : (k : Int) < (L.length : Int) := by omega
   have hil : its8.length = L.length := by rw [← HG.out.is, List.length_map]
   obtain ⟨gA, rfl⟩ : ∃ gA, A8 = some ⟨gA, 0, none⟩ := by
    rcases HG.out.row.own.2 with ⟨h, h2⟩ | ⟨vb, cap, cur, h, -⟩
    ·omega
    ·injection h with h; exact ⟨vb, h⟩
   obtain ⟨m0, m1, m2, m3, -⟩ := HG.out.row.slot hil.symm k (by omega);have hx1 : (its8[k]'(by omega)).1 = L[k] := by
    have h := congrArg (·[k]?) HG.out.is;simpa [List.getElem?_eq_getElem (show k < its8.length by omega), List.getElem?_eq_getElem hlt] using h
   obtain ⟨hxk, hxn, -, -⟩ := HLF.out L[k] (List.getElem_mem hlt);obtain ⟨x, hx⟩ : ∃ x, x = its8[k]'(by omega) := ⟨_, rfl⟩;rw [← hx] at m0 m1 m2 m3 hx1;obtain ⟨y, Ay, cy⟩ := x;dsimp only at m0 m1 m2 m3 hx1;rw [← hx1] at hxn;obtain ⟨X, hX⟩ : ∃ X, X = wr.alloc (.cells #[.int .i64 y.kind, .string y.name, .int .i64 y.sort, .slice Ay y.kids.length cy] 24) := ⟨_, rfl⟩;have hbX : Below wr.heap.size wr X := by rw [hX]; exact qaf (Nat.le_refl _) _
   have hX2 := HG.out.go hbX;have hux : X.heap[wr.heap.size]? = some (.cells #[.int .i64 y.kind, .string y.name, .int .i64 y.sort, .slice Ay y.kids.length cy] 24 (0, 0)) := by rw [hX]; exact heap_alloc_new _ _
   have hD2 := hX2.go (Z' := X.drew) (Below.refl _ _).drew;have hXd : Hid (X.drew.heap[wr.heap.size]? = some (.cells #[.int .i64 y.kind, .string y.name, .int .i64 y.sort, .slice Ay y.kids.length cy] 24 (0, 0))) := hux;have HX := Lib.hid hX;have HX1 := Lib.hid hx1;have HGX := Lib.hid hD2;clear hx hX2 hbX hX hux hx1 hD2 hil;go_wp2_with fail
   rw [← HX.out];refine qal (fun Y => Below X.drew.heap.size X.drew Y) (fun _ => True) [6] (.held 0 (.held 1 (.held 2 (.held 3 (.held 4 (.held 5 (.op 6 .nil))))))) mixed (by kernel_rfl) ?_;clear HX;generalize X.drew = D at *;have hlw := HGX.out.box.lt;have hmD := HGX.out.set.lt;have hwD := (Array.getElem?_eq_some_iff.1 hXd.out).1;have hcD := (Array.getElem?_eq_some_iff.1 HGX.out.cell).1;obtain ⟨c0, -, -, -, -⟩ := qad (show D.heap[mb + 1]? = some (.cells #[.map (some mb), .int .i64 ((0 : Nat) : Int), .slice none 0 0, .slice none 0 0] 73 (0, 0)) from HGX.out.cell);obtain ⟨-, d1, -, -, -⟩ := qad hXd.out;refine qaa (v := .pointer (some ⟨mb + 1, 0, none⟩)) rfl rfl rfl (fun _ _ _ h => h) (Below.refl _ _) trivial (fun Y hY _ => by (try simp only [Act.put]); go_simp) ?_
   refine qaa (v := .pointer (some ⟨mb + 1, 0, none⟩)) rfl rfl rfl (fun _ _ _ h => h) (Below.refl _ _) trivial (fun Y hY _ => by (try simp only [Act.put]); go_simp) ?_;refine qaa (v := .pointer (some ⟨mb + 1, 0, none⟩)) rfl rfl rfl (fun _ _ _ h => h) (Below.refl _ _) trivial (fun Y hY _ => by (try simp only [Act.put]); go_simp) ?_;refine qaa (v := .map (some mb)) rfl rfl rfl (fun _ _ _ h => h) (Below.refl _ _) trivial (fun Y hY _ => by
    have z0 := (hY.cell (p := ⟨mb + 1, 0, none⟩) (by show mb + 1 < _; omega)).trans c0
    (try simp only [Act.put]); go_simp) ?_
   refine qaa (v := .pointer (some ⟨wr.heap.size, 1, none⟩)) rfl rfl rfl (fun _ _ _ h => h) (Below.refl _ _) trivial (fun Y hY _ => by (try simp only [Act.put]); go_simp) ?_;refine qaa (v := .string y.name) rfl rfl rfl (fun _ _ _ h => h) (Below.refl _ _) trivial (fun Y hY _ => by
    have z0 := (hY.cell (p := ⟨wr.heap.size, 1, none⟩) (by show wr.heap.size < _; omega)).trans d1
    (try simp only [Act.put]); go_simp) ?_
   simp only [Act.put, List.setIfInBounds_toArray];obtain ⟨N3, hrun3, hset3, hturn3⟩ := HGX.out.set.store (by unfold maxLen; omega) (s := y.name) hxn;rw [HX1.out] at hset3;have HG3 := Lib.hid (HGX.out.turn (by omega) hs7 hlt hset3 hturn3);clear c0 d1 hset3 hturn3 m0 m1 m2 m3;refine qab rfl rfl (fun K hK => ?_);refine qix (by rfl) 71 (.tmp 34) (.tmp 36) (.const (.bool true)) (by rfl) (by rfl) (by rfl) (by rfl) hrun3 ?_;refine hK _ _ ⟨⟨fun h => absurd h (by decide), trivial⟩, qap ?_⟩;clear hK K;go_wp2_with fail
   go_roundw
   case rel => exact ⟨k + 1, by omega, by go_num, HG3.out⟩
   case measure => simp [intOf]; omega
  ·obtain rfl : k = L.length := by omega
   have hset := HG.out.set;rw [List.take_length] at hset;have hbx := HG.out.box;have hlw := hbx.lt;have hgw := (Array.getElem?_eq_some_iff.1 HG.out.cell).1;have hgen : GenAt (mb + 1) mb L.length w.heap.size (L.map Tm.name) gs0 none 0 none 0 [] [] wr :=
    ⟨HG.out.cell, hset, RowG.nil _ _ _ _, RowT.nil _ _ _, rfl, rfl, by simp, fun b e => by cases e⟩
   have hws := HW0.out.size;have OF := of_any (mb + 1) mb L.length w.heap.size (L.map Tm.name) w0 M HII.out (by omega) (Nat.lt_succ_self _) (by omega) hM t.size t u T U ct cu gs0 none 0 none 0 [] [] wr (Nat.le_refl _) HVT.out.1 HVT.out.2 (qeh _)
    (by show ((L.map Tm.name).length + 1) * (0 + t.size) < M; rw [List.length_map, Nat.zero_add]; exact HMB.out) (by show 0 + t.size ≤ _; omega) (fun p hp => by cases hp) hgen (HW0.out.trans (hbx.bel.mono hws)) (RepP.mono (fun _ h => h) (fun p (hp : p.block < w.heap.size) => hbx.bel.cell hp) _ _ _ HRT.out) (RepP.mono (fun _ h => h) (fun p (hp : p.block < w.heap.size) => hbx.bel.cell hp) _ _ _ HRU.out)
   have hge : (t.gen (L.map Tm.name) u gs0).1 = genE t u := by rw [HL.out]; exact qhv t u
   obtain ⟨q, hq⟩ : ∃ q, q = t.gen (L.map Tm.name) u gs0 := ⟨_, rfl⟩;rw [← hq] at OF hge;obtain ⟨q1, q2⟩ := q;change q1 = genE t u at hge;rw [← hge] at HR2;simp only [Tm.val] at OF;have OF := Lib.hid OF;have HGE := Lib.hid hge;clear hq hge hgen;obtain ⟨a0, a1, a2, a3, -⟩ := qam t (hbx.one);obtain ⟨b0, b1, b2, b3, -⟩ := qam u (hbx.two);have HBX := Lib.hid hbx; clear hbx hset;go_wp2_with fail
   refine OF.out.mono ?_; clear OF a0 a1 a2 a3 b0 b1 b2 b3;rintro e w9 ⟨A9, c9, PA', Pc', VA', Vc', its', vts', rfl, hof⟩;have h39 := (hof.old (w.heap.size + 1 + 1) (by omega) (by omega) (fun e => by cases e) (fun e => by cases e)).trans HBX.out.three;obtain ⟨f0, f1, f2, f3, ff⟩ := qad h39;have hs9 := hof.size;have hb9 : Below w.heap.size w w9 := HBX.out.bel.trans (hof.bel.mono (by omega));have hr9 : RepP w9 (fun b => b < w9.heap.size ∧ b ≠ w.heap.size + 1 + 1) q1 A9 c9 := RepP.mono (fun b h => by
    rcases h with h | ⟨h1, h2, -⟩
    ·exact ⟨by omega, by omega⟩
    ·exact ⟨h2, by omega⟩) (fun _ _ => rfl) _ _ _ hof.rep
   have HB9 := Lib.hid hb9; clear hb9 hof;have HR9 := Lib.hid hr9; clear hr9;simp only [Tm.val];go_wp2_with fail
   refine bodyPost_ret (v := .tuple #[.agg #[.int .i64 q1.kind, .string q1.name, .int .i64 q1.sort, .slice A9 q1.kids.length c9], .int .i64 0]) ?_ rfl ?_
   ·simp [results, Tryz.results25, go_sem, f0, f1, f2, f3]
   rw [HR2.out];exact qe6 (r := (q1, 0)) HB9.out (by omega) HR9.out
end Go.Proofs.YtpjmdilpldaapaaGreatDoor
