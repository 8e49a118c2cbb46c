/- Ugcat, Ugenl (joined by shake.py). -/
import Derived.Test.YtpjmdilpldaapaaGreatDoorS5
import Derived.Test.YtpjmdilpldaapaaGreatDoorS14
import Derived.Laws.OwnMore
set_option maxRecDepth 100000
namespace Go.Proofs.YtpjmdilpldaapaaGreatDoor
open Go.RowKit Go.Sort
theorem grow_run (w : World) (n : Nat) (h0 : 0 < n) (hn : n ≤ 1000000) (ty : TypeId) :
  ∃ cap w', (Builtin.append_ #[22, 3] ty #[.slice none 0 0, .int .i64 n]).run Tryz.prog w = .ok (.slice (some ⟨w.heap.size, 0, none⟩) n cap) w' ∧ n ≤ cap ∧ RowT w' w.heap.size (fun _ => True) (.slice (some ⟨w.heap.size, 0, none⟩) 0 cap) [] ∧ Below w.heap.size w w' := by
 obtain ⟨i0, hi0, hz0, hz1, hz2⟩ := info_parts qcg;have hcap := grownCap_ge w n 0 24;have hcap2 := grownCap_le_maxLen w n 0 24 (by unfold maxLen; omega);obtain ⟨zz, hzz⟩ : ∃ z : Value, z = .agg #[.int .i64 0, .string ⟨#[]⟩, .int .i64 0, .slice none 0 0] := ⟨_, rfl⟩;have hzs : zz.cells.size = 4 := by rw [hzz]; rfl
 rw [← hzz] at hz0;refine ⟨grownCap w n 0 24, w.drew.alloc (.cells (Builtin.zeroCells zz.cells n ++ Builtin.zeroCells zz.cells (grownCap w n 0 24 - n)) 24), ?_, hcap, ⟨⟨by simp [itCells], .inr ⟨w.heap.size, _, _, rfl, Nat.le_refl _, heap_alloc_new w.drew _, Nat.zero_le _, hcap2, ?_, by simp [itCells]⟩⟩, by simp⟩, ?_⟩
 ·have hn0 : n ≠ 0 := by omega
  have h63' : ¬ (9223372036854775807 < (n : Int)) := by omega
  have h48' : ¬ (281474976710656 < Builtin.nextslicecap n 0 * i0.bytes) := by rw [nextslicecap_zero h0, hz2]; omega
  have hw : IntKind.i64.wrap (n : Int) = (n : Int) := by rw [IntKind.wrap_i64]; omega
  have hneg : ¬ ((n : Int) < 0) := by omega
  have hbig : ¬ (281474976710656 < (n : Int) * (i0.bytes : Int)) := by rw [hz2]; omega
  have hsz : ¬ (n * i0.size = 0) := by rw [hz1]; omega
  simp [Builtin.append_, run_underlying Tryz.underlying22, run_underlying Tryz.underlying3, sizeOf, typeInfo, zeroValue, hi0, hz0, hn0, h63', h48', Question.forced, run_firstCells_none, newRow, grownCap, asInt, asIntOf, hw, hneg, hbig, hsz]
 ·simp only [Array.size_append, size_zeroCells, hzs, ← Nat.add_mul]
  congr 1
  omega
 ·exact (Below.refl _ _).drew.alloc (Nat.le_refl _) _
theorem qe4 {w w' : World} {ops : Array Oper} {rest : List Oper} {o : Oper} {a : Act} {Q : Exit → Act → World → Prop} {v u v' : Value} {t t2 : TypeId} (hgd : o.guard = none) (s x : Operand)
  (ho : o.op = .call { callee := .builtin .append, args := #[s, x], argTypes := #[t, t2] }) (hs : a.eval s = v) (hx : a.eval x = u)
  (hrun : ∀ ty, (Builtin.append_ #[t, t2] ty #[v, u]).run Tryz.prog w = .ok v' w') (h : wpList Tryz.prog ops Q rest (a.put o.dst v') w') : wpList Tryz.prog ops Q (o :: rest) a w := by
 refine wpList_plain hgd fun K hK => ?_;unfold Oper.wp execOp;simp only [ho, resolve, invoke, builtin, Sem.run_bind, Sem.run_pure, Result.andThen_ok, List.map_toArray, List.map_cons, List.map_nil, hs, hx, hrun];exact hK _ _ h
def Grew (w : World) (e : Ending) (w' : World) : Prop := ∃ A c, e = .returned (.slice A 0 c) ∧ RowT w' w.heap.size (fun _ => True) (.slice A 0 c) [] ∧ Below w.heap.size w w'
set_option maxHeartbeats 1000000 in
theorem grow_any (n : Nat) (hn : n ≤ 1000000) (w : World) : Calls Tryz.prog 69 #[.slice none 0 0, .int .i64 n] w (Grew w) := by
 rcases Nat.eq_zero_or_pos n with rfl | h0
 ·go_enter Tryz.func69, Tryz.ntmps69
  go_wp2_with fail
  go_ret
  exact ⟨none, 0, rfl, RowT.nil _ _ _, Below.refl _ _⟩
 ·have i1 : (0 : Int) < (n : Int) := by omega
  have i2 : ¬ ((n : Int) < 0) := by omega
  have hr : ∃ cap w', (∀ ty, (Builtin.append_ #[22, 3] ty #[.slice none 0 0, .int .i64 n]).run Tryz.prog w = .ok (.slice (some ⟨w.heap.size, 0, none⟩) n cap) w') ∧ n ≤ cap ∧ RowT w' w.heap.size (fun _ => True) (.slice (some ⟨w.heap.size, 0, none⟩) 0 cap) [] ∧ Below w.heap.size w w' := by
   obtain ⟨cap, w', h1, h2⟩ := grow_run w n h0 hn 0;exact ⟨cap, w', fun _ => h1, h2⟩
  obtain ⟨cap, w', hap, hcap, hrow, hb⟩ := hr;have HROW := Lib.hid hrow; clear hrow;have HB := Lib.hid hb; clear hb;obtain ⟨g, hg⟩ : ∃ g, g = w.heap.size := ⟨_, rfl⟩;rw [← hg] at hap HROW;go_enter Tryz.func69, Tryz.ntmps69
  go_wp2_with (at_builtin; refine qe4 rfl _ _ rfl rfl rfl hap ?_)
  go_ret
  have hrow := HROW.out;rw [hg] at hrow;exact ⟨some ⟨w.heap.size, 0, none⟩, cap, rfl, hrow, HB.out⟩
theorem qee {w : World} {base n : Nat} {v : Value} {xs : List Value} (hown : w.ownsRow base 24 4 v n xs) (A : Option Addr) (c : Nat) (ty : TypeId) :
  (Builtin.append_ #[22, 22] ty #[v, .slice A 0 c]).run Tryz.prog w = .ok v w := by
 obtain ⟨i0, hi0, hz0, hz1, hz2⟩ := info_parts qcg;rcases hown.2 with ⟨rfl, rfl⟩ | ⟨g, cap, cur, rfl, _, _, hnc, _⟩
 ·cases A <;> simp [Builtin.append_, run_underlying Tryz.underlying22, sizeOf, typeInfo, hi0, Builtin.lenOf, Builtin.firstCells, loadCells, loadCellsFrom]
 ·cases A <;> simp [Builtin.append_, run_underlying Tryz.underlying22, sizeOf, typeInfo, hi0, Builtin.lenOf, Builtin.firstCells, hnc, storeCells, loadCells, loadCellsFrom]
theorem qhz {w : World} {base : Nat} {v : Value} {its : List It} {B : Nat} (hrow : RowT w base (fun b => b < B) v its) (hB : B ≤ base) (hbase : base ≤ w.heap.size) {l : List Tm} {A : Option Addr} {c : Nat} (hS : RepS w (fun b => b < B) l A c) (hlen : its.length + l.length ≤ 100000000) :
  ∃ A' c' w' it2, it2.map (·.1) = l ∧ (∀ ty, (Builtin.append_ #[22, 22] ty #[v, .slice A l.length c]).run Tryz.prog w = .ok (.slice A' (its.length + l.length) c') w') ∧
   RowT w' base (fun b => b < B) (.slice A' (its.length + l.length) c') (its ++ it2) ∧ (∀ W0 B0, Below B0 W0 w → B0 ≤ base → Below B0 W0 w') := by
 have grown : ∀ {w1 : World}, w.grownBy w1 v.ownBlock → ∀ W0 B0, Below B0 W0 w → B0 ≤ base → Below B0 W0 w1 := fun hg W0 B0 hb hB0 =>
  qat hb (by omega) hg (fun k hk => by have := (hrow.lt k hk).1; omega)
 rcases hS.2.2 with h | ⟨b, off, rfl, hbB, hl⟩
 ·subst h;have hc0 : ∀ ty, (Builtin.append_ #[22, 22] ty #[v, .slice A 0 c]).run Tryz.prog w = .ok v w := fun ty => qee hrow.own A c ty;rcases hrow.own.2 with ⟨hv, h0⟩ | ⟨g, cap, cur, hv, _⟩
  ·refine ⟨none, 0, w, [], rfl, fun ty => ?_, ?_, fun _ _ h _ => h⟩
   ·rw [hv] at hc0; rw [hv, h0]; exact hc0 ty
   ·rw [hv] at hrow; rw [List.append_nil, h0]; exact hrow
  ·refine ⟨some ⟨g, 0, none⟩, cap, w, [], rfl, fun ty => ?_, ?_, fun _ _ h _ => h⟩
   ·have h2 := hc0 ty; rw [hv] at h2; rw [hv]; exact h2
   ·rw [hv] at hrow; rw [List.append_nil]; exact hrow
 ·obtain ⟨it2, hm, hc, hr⟩ := qal.its l b off hl;have hl2 : l.length = it2.length := by rw [← hm, List.length_map]
  obtain ⟨A', c', w', h1, h2, h3, -⟩ := hrow.more (fun b h => by omega) hbase b off c l.length it2 hl2 hc hr hlen;exact ⟨A', c', w', it2, hm, h1, h2, grown h3⟩
def Catted (L : List Tm) (w : World) (e : Ending) (w' : World) : Prop :=
 ∃ A c its, e = .returned (.slice A L.length c) ∧ RowT w' w.heap.size (fun b => b < w.heap.size) (.slice A L.length c) its ∧ its.map (·.1) = L ∧ Below w.heap.size w w'
set_option maxHeartbeats 2000000 in
theorem qni (l m : List Tm) (A0 A1 : Option Addr) (c0 c1 sb : Nat) (w : World) (hl : l.length ≤ 100000) (hm : m.length ≤ 100000)
  (hx : w.heap[sb]? = some (.cells #[.slice A0 l.length c0, .slice A1 m.length c1] 22 (0, 0))) (h0 : RepS w (fun b => b < w.heap.size) l A0 c0) (h1 : RepS w (fun b => b < w.heap.size) m A1 c1) :
  Calls Tryz.prog 43 #[.slice (some ⟨sb, 0, none⟩) 2 2] w (Catted (l ++ m) w) := by
 have hsb := (Array.getElem?_eq_some_iff.1 hx).1;have x0 : w.cell? ⟨sb, 0, none⟩ = some (.slice A0 l.length c0) := by simp [World.cell?, hx]
 have x1 : w.cell? ⟨sb, 1, none⟩ = some (.slice A1 m.length c1) := by simp [World.cell?, hx]
 have GR := grow_any (l.length + m.length) (by omega) w;rw [show ((l.length + m.length : Nat) : Int) = (l.length : Int) + (m.length : Int) by omega] at GR;have GR := Lib.hid GR;have H0 := Lib.hid h0; clear h0;have H1 := Lib.hid h1; clear h1;have i1 : (0 : Int) ≤ (l.length : Int) := by omega
 have i2 : (0 : Int) ≤ (m.length : Int) := by omega
 have i3 : ¬ ((l.length : Int) < 0) := by omega
 have i4 : ¬ ((l.length : Int) + (m.length : Int) < 0) := by omega
 go_enter Tryz.func43, Tryz.ntmps43
 go_wp2_with fail
 refine wp_loop_rounds 3 ?_;rw [rounds_succ];go_wp2_with fail
 rw [rounds_succ];go_wp2_with fail
 rw [rounds_succ];go_wp2_with fail
 refine GR.out.mono ?_; clear GR x0 x1;rintro e w1 ⟨A, c, rfl, hrow, hb⟩;have hrow' : RowT w1 w.heap.size (fun b => b < w.heap.size) (.slice A 0 c) [] := ⟨hrow.own, by simp⟩;have up : ∀ {Z : World} {t : List Tm} {T : Option Addr} {k : Nat}, Below w.heap.size w Z → RepS w (fun b => b < w.heap.size) t T k → RepS Z (fun b => b < w.heap.size) t T k := fun hZ h => RepS.mono (fun _ h => h) (fun p hp => hZ.cell hp) h;obtain ⟨A2, c2, w2, it2, hm2, hap1, hrow2, hg2⟩ := qhz hrow' (Nat.le_refl _) hb.size (up hb H0.out) (by simp; omega);have hb2 := hg2 _ _ hb (Nat.le_refl _);simp only [List.length_nil, Nat.zero_add, List.nil_append] at hap1 hrow2;have hl2 : it2.length = l.length := by rw [← hm2, List.length_map]
 rw [← hl2] at hrow2;obtain ⟨A3, c3, w3, it3, hm3, hap2, hrow3, hg3⟩ := qhz hrow2 (Nat.le_refl _) hb2.size (up hb2 H1.out) (by omega);have hb3 := hg3 _ _ hb2 (Nat.le_refl _);rw [hl2] at hap2 hrow3;have x0 : w1.cell? ⟨sb, 0, none⟩ = some (.slice A0 l.length c0) := by rw [hb.cell (show sb < _ from hsb)]; simp [World.cell?, hx]
 have x1 : w2.cell? ⟨sb, 1, none⟩ = some (.slice A1 m.length c1) := by rw [hb2.cell (show sb < _ from hsb)]; simp [World.cell?, hx]
 have HROW := Lib.hid hrow3; clear hrow3 hrow2 hrow' hrow hg2 hg3;have HB := Lib.hid hb3; clear hb3 hb2 hb;have HM : Hid ((it2 ++ it3).map (·.1) = l ++ m) := by show _ = _; rw [List.map_append, hm2, hm3]
 clear hm2 hm3 hl2 hx up i1 i2 i3 i4;go_wp2_with fail
 refine wp_loop_rounds 3 ?_;rw [rounds_succ];go_wp2_with (at_builtin; refine qag rfl _ _ rfl rfl rfl hap1 ?_)
 rw [rounds_succ];go_wp2_with (at_builtin; refine qag rfl _ _ rfl rfl rfl hap2 ?_)
 rw [rounds_succ];go_wp2_with fail
 go_ret
 exact ⟨A3, c3, it2 ++ it3, by rw [List.length_append]; rfl, by rw [List.length_append]; exact HROW.out, HM.out, HB.out⟩
end Go.Proofs.YtpjmdilpldaapaaGreatDoor
namespace Go.Proofs.YtpjmdilpldaapaaGreatDoor
open Go.RowKit Go.Sort Go.Maps
theorem qh3 {N N' : List ByteArray} (h : ∀ x, x ∈ N ↔ x ∈ N') (t u : Tm) (g : Gs) : newG N t u g = newG N' t u g ∧ addG N t u g = addG N' t u g := by
 have hn : newG N t u g = newG N' t u g := by unfold newG; rw [qf6 h]
 refine ⟨hn, ?_⟩;unfold addG;rw [hn, qf6 h]
theorem qky {N N' : List ByteArray} (h : ∀ x, x ∈ N ↔ x ∈ N') (t u : Tm) (g : Gs) : qd5 N t u g = qd5 N' t u g := by
 unfold qd5;rw [(qh3 h t u g).1, (qh3 h t u g).2]
mutual
theorem qjs {N N' : List ByteArray} (h : ∀ x, x ∈ N ↔ x ∈ N') : ∀ (t u : Tm) (g : Gs), t.gen N u g = t.gen N' u g
 | .mk k n s l, u, g => by rw [Tm.gen, Tm.gen, qh8 h l u.kids g, qky h]
theorem qh8 {N N' : List ByteArray} (h : ∀ x, x ∈ N ↔ x ∈ N') : ∀ (l m : List Tm) (g : Gs), Tm.gens N l m g = Tm.gens N' l m g
 | [], m, g => by cases m <;> (rw [Tm.gens, Tm.gens] <;> simp)
 | t :: l, [], g => by rw [Tm.gens, Tm.gens] <;> simp
 | t :: l, u :: m, g => by rw [Tm.gens, Tm.gens, qjs h t u g, qh8 h l m _]
end
theorem qcf {t u : Tm} (h : qau t u = 0) : t.valid = 0 ∧ u.valid = 0 := by
 unfold qau at h
 split at h
 ·rename_i h1; exact absurd h h1
 ·rename_i h1; exact ⟨by simpa using h1, h⟩
def varsOf (t : Tm) : List Tm := Tm.set (t.all.filter fun u => u.kind == 1)
def qgq (t u : Tm) : List Tm := varsOf t ++ varsOf u
theorem qi4 (t u : Tm) (x : ByteArray) : x ∈ (qgq t u).map Tm.name ↔ x ∈ namesU t u := by
 unfold qgq namesU namesT varsOf;simp only [List.map_append, List.mem_append, List.mem_map, Tm.mem_set, List.mem_filter, beq_iff_eq, decide_eq_true_eq]
theorem qbv (t : Tm) : (varsOf t).length ≤ t.size := by
 unfold varsOf;refine Nat.le_trans (Tm.set_length _) (Nat.le_trans (List.length_filter_le _ _) ?_);rw [qhl]; exact Nat.le_refl _
theorem qng (t u : Tm) : (t.gen ((qgq t u).map Tm.name) u gs0).1 = genE t u := by
 unfold genE;rw [qjs (qi4 t u)]
mutual
theorem check_all : ∀ t : Tm, t.check = 0 → ∀ x ∈ t.all, x.check = 0
 | .mk k n s l, h, x, hx => by
  rw [Tm.all] at hx;rcases List.mem_cons.1 hx with rfl | hx
  ·exact h
  ·rcases qc4 h with ⟨-, rfl⟩ | ⟨-, -, hc⟩
   ·simp [Tm.alls] at hx
   ·exact qid l hc x hx
theorem qid : ∀ l : List Tm, Tm.checks l = 0 → ∀ x ∈ Tm.alls l, x.check = 0
 | [], _, x, hx => by simp [Tm.alls] at hx
 | t :: r, h, x, hx => by
  rw [Tm.alls, List.mem_append] at hx;obtain ⟨h1, h2⟩ := qc3 h;rcases hx with hx | hx
  ·exact check_all t h1 x hx
  ·exact qid r h2 x hx
end
theorem qdb {t : Tm} (h : t.valid = 0) : ∀ x ∈ varsOf t, x.kids = [] ∧ qb4 x := by
 intro x hx;unfold varsOf at hx;rw [Tm.mem_set, List.mem_filter] at hx;exact check_keyable (check_all t (check_valid h) x hx.1) (by simpa using hx.2)
theorem qgy {w : World} {base : Nat} {F : Nat → Prop} {v : Value} {its : List It} (h : RowT w base F v its) (hl : ∀ x ∈ its, x.1.kids = []) : RowT w base (fun _ => False) v its := by
 refine ⟨h.own, fun x hx => ?_⟩;have hr := h.reps x hx;have hk := hl x hx;obtain ⟨⟨a1, a2, a3, a4⟩, A, c⟩ := x;have hk : a4 = [] := hk;subst hk;dsimp only at hr ⊢;rw [qbf] at hr ⊢;exact ⟨hr.1, hr.2.1, hr.2.2.1, .inl rfl⟩
structure Box3 (w : World) (o1 o2 o3 : Obj) (Z : World) : Prop where
 one : Z.heap[w.heap.size]? = some o1
 two : Z.heap[w.heap.size + 1]? = some o2
 three : Z.heap[w.heap.size + 1 + 1]? = some o3
 bel : Below w.heap.size w Z
theorem Box3.lt {w Z : World} {o1 o2 o3 : Obj} (h : Box3 w o1 o2 o3 Z) : w.heap.size + 3 ≤ Z.heap.size := (Array.getElem?_eq_some_iff.1 h.three).1
theorem Box3.keep {w Z Z' : World} {o1 o2 o3 : Obj} (h : Box3 w o1 o2 o3 Z) (hb : ∀ k, k < w.heap.size + 3 → w.heap.size ≤ k → Z'.heap[k]? = Z.heap[k]?) (hbel : Below w.heap.size w Z') : Box3 w o1 o2 o3 Z' :=
 ⟨(hb _ (by omega) (by omega)).trans h.one, (hb _ (by omega) (by omega)).trans h.two, (hb _ (by omega) (by omega)).trans h.three, hbel⟩
theorem Box3.go {w Z Z' : World} {o1 o2 o3 : Obj} (h : Box3 w o1 o2 o3 Z) (hb : Below Z.heap.size Z Z') : Box3 w o1 o2 o3 Z' :=
 h.keep (fun k hk _ => hb.block k (by have := h.lt; omega)) (h.bel.trans (hb.mono (by have := h.lt; omega)))
theorem Box3.new (w : World) (o1 o2 o3 : Obj) (h1 : ∀ W : World, (W.alloc o1).heap[W.heap.size]? = some o1) (h2 : ∀ W : World, (W.alloc o2).heap[W.heap.size]? = some o2) (h3 : ∀ W : World, (W.alloc o3).heap[W.heap.size]? = some o3) : Box3 w o1 o2 o3 (((w.alloc o1).alloc o2).alloc o3) := by
 have b1 := qah (Nat.le_refl w.heap.size) o1;have b2 := qah (Nat.le_refl (w.alloc o1).heap.size) o2;have b3 := qah (Nat.le_refl ((w.alloc o1).alloc o2).heap.size) o3;have s1 : (w.alloc o1).heap.size = w.heap.size + 1 := by simp
 have s2 : ((w.alloc o1).alloc o2).heap.size = w.heap.size + 1 + 1 := by simp
 refine ⟨(b3.block _ (by omega)).trans ((b2.block _ (by omega)).trans (h1 w)), (b3.block _ (by omega)).trans ?_, ?_, ?_⟩
 ·rw [← s1]; exact h2 _
 ·rw [← s2]; exact h3 _
 ·exact b1.trans ((b2.mono (by omega)).trans (b3.mono (by omega)))
def genR (t u : Tm) : Tm × Int := if qau t u ≠ 0 then (.mk 0 ⟨#[]⟩ 0 [], qau t u) else (genE t u, 0)
def Genl (r : Tm × Int) (w : World) (e : Ending) (w' : World) : Prop := ∃ A c, e = .returned (.tuple #[r.1.val A c, .int .i64 r.2]) ∧ RepT w' w'.heap.size r.1 A c ∧ Below w.heap.size w w'
theorem qjr {w Y : World} {r : Tm × Int} {A : Option Addr} {c b : Nat} (hB : Below w.heap.size w Y) (hb : w.heap.size ≤ b) (hrep : RepP Y (fun k => k < Y.heap.size ∧ k ≠ b) r.1 A c) {x y z v : Value} :
  Genl r w (.returned (.tuple #[r.1.val A c, .int .i64 r.2])) ((((Y.setCell ⟨b, 0, none⟩ x).setCell ⟨b, 1, none⟩ y).setCell ⟨b, 2, none⟩ z).setCell ⟨b, 3, none⟩ v) := by
 refine ⟨A, c, rfl, ?_, ?_⟩
 ·refine RepP.mono ?_ ?_ _ _ _ hrep
  ·rintro k ⟨h1, -⟩;simpa [World.setCell] using h1
  ·intro q h1;have hne : q.block ≠ b := h1.2;have hq : ∀ o, (⟨b, o, none⟩ : Addr) ≠ q := fun o e => by rw [← e] at hne; exact hne rfl
   rw [World.cell?_setCell_other _ _ _ _ (hq _), World.cell?_setCell_other _ _ _ _ (hq _), World.cell?_setCell_other _ _ _ _ (hq _), World.cell?_setCell_other _ _ _ _ (hq _)]
 ·iterate 4 refine Below.setCell ?_ (by exact hb) _
  exact hB
theorem qi2 {w w' : World} {o : Oper} {a : Act} {K : Act → World → Prop} {Q : Exit → Act → World → Prop} {m k x : Value} (_hgd : o.guard = none) (t : TypeId) (om ok ox : Operand)
  (ho : o.op = .mapUpdate t om ok ox) (hm : a.eval om = m) (hk : a.eval ok = k) (hx : a.eval ox = x) (hrun : (Instr.mapUpdate t m k x).run Tryz.prog w = .ok () w') (h : K (a.put o.dst undef) w') : Oper.wp Tryz.prog o a w K Q := by
 unfold Oper.wp;simp [execOp, ho, hm, hk, hx, hrun, Result.andThen];exact h
structure GlAt (w : World) (o1 o2 o3 : Obj) (mb : Nat) (L : List Tm) (its : List It) (A : Option Addr) (c base k : Nat) (Z : World) : Prop where
 box : Box3 w o1 o2 o3 Z
 cell : Z.heap[mb + 1]? = some (qjt mb 0 (.slice none 0 0) (.slice none 0 0))
 set : qde Z mb k ((L.take k).map Tm.name)
 row : RowT Z base (fun _ => False) (.slice A L.length c) its
 is : its.map (·.1) = L
section
variable {w Z Z' : World} {o1 o2 o3 : Obj} {mb : Nat} {L : List Tm} {its : List It} {A : Option Addr} {c base k : Nat}
theorem GlAt.go (h : GlAt w o1 o2 o3 mb L its A c base k Z) (hb : Below Z.heap.size Z Z') : GlAt w o1 o2 o3 mb L its A c base k Z' :=
 ⟨h.box.go hb, (hb.block _ (Array.getElem?_eq_some_iff.1 h.cell).1).trans h.cell, h.set.keep (hb.block _ h.set.lt), h.row.below hb, h.is⟩
theorem GlAt.turn (h : GlAt w o1 o2 o3 mb L its A c base k Z) (hw : w.heap.size + 3 ≤ mb) (hbase : mb + 1 < base) (hk : k < L.length) (hset : qde Z' mb (k + 1) (L[k].name :: (L.take k).map Tm.name)) (ht : Z.mapTurned Z' mb) : GlAt w o1 o2 o3 mb L its A c base (k + 1) Z' := by
 have hs := ht.grown.size;have hk2 : ∀ j, j < Z.heap.size → j ≠ mb → Z'.heap[j]? = Z.heap[j]? := fun j hj hne => ht.grown.block j hj (fun e => by injection e with e; exact hne e);have hl := h.box.lt;refine ⟨h.box.keep (fun j h1 h2 => hk2 j (by omega) (by omega)) (h.box.bel.grown ht.grown (by omega) (fun j e => by injection e with e; omega)), (hk2 _ (Array.getElem?_eq_some_iff.1 h.cell).1 (by omega)).trans h.cell, hset.congr fun s => ?_, qb5 h.row hs (fun j e => hk2 j (h.row.lt j e).2 (by have := (h.row.lt j e).1; omega)) (fun b hb => False.elim hb), h.is⟩;rw [List.take_succ_eq_append_getElem hk, List.map_append, List.mem_cons, List.mem_append];simp only [List.map_cons, List.map_nil, List.mem_singleton];exact or_comm
end
set_option maxHeartbeats 4000000 in
theorem qce (t u : Tm) (T U : Option Addr) (ct cu : Nat) (w0 w : World) (M : Nat) (HI : qb0 M w0) (h0 : Below w0.heap.size w0 w) (hM : M ≤ 1000000) (hMb : qau t u = 0 → ((qgq t u).length + 1) * t.size < M) (ht : t.size ≤ 1000000) (hu : u.size ≤ 1000000)
  (hrt : RepT w w.heap.size t T ct) (hru : RepT w w.heap.size u U cu) :
  Calls Tryz.prog 25 #[t.val T ct, u.val U cu] w (Genl (genR t u) w) := by
 have mixed : Tryz.prog.follows .mixedOrders = true := by kernel_rfl
 have hmm := @run_makeMap Tryz.prog;obtain ⟨V, hV⟩ : ∃ V, V = ((w.alloc (boxT t T ct)).alloc (boxT u U cu)).alloc (.cells #[.int .i64 0, .string ⟨#[]⟩, .int .i64 0, .slice none 0 0] 24) := ⟨_, rfl⟩;have h3 : Box3 w (boxT t T ct) (boxT u U cu) (.cells #[.int .i64 0, .string ⟨#[]⟩, .int .i64 0, .slice none 0 0] 24 (0, 0)) V := by
  rw [hV]; exact Box3.new w _ _ _ (fun W => heap_alloc_new _ _) (fun W => heap_alloc_new _ _) (fun W => heap_alloc_new _ _)
 have hup : ∀ (Z : World) (y : Tm) (Y : Option Addr) (cy : Nat), Below w.heap.size w Z → RepT w w.heap.size y Y cy → RepT Z Z.heap.size y Y cy := fun Z y Y cy hZ h => h.go hZ hZ.size;have VV := qfu t u T U ct cu V ht hu (hup V _ _ _ h3.bel hrt) (hup V _ _ _ h3.bel hru);obtain ⟨v2, hv2⟩ : ∃ v, v = qau t u := ⟨_, rfl⟩;obtain ⟨r, hr⟩ : ∃ r, r = genR t u := ⟨_, rfl⟩;rw [← hr];unfold genR at hr;rw [← hv2] at VV hr hMb;have HR := Lib.hid hr; clear hr;have HV2 := Lib.hid hv2; clear hv2;have H3 := Lib.hid h3; clear h3;have HUP := Lib.hid hup; clear hup;have HRT := Lib.hid hrt; clear hrt;have HRU := Lib.hid hru; clear hru;have HII := Lib.hid HI; clear HI;have HW0 := Lib.hid h0; clear h0;have HMB := Lib.hid hMb; clear hMb;simp only [boxT] at hV;have HV := Lib.hid hV; clear hV;obtain ⟨a0, a1, a2, a3, -⟩ := qao t (H3.out.one);obtain ⟨b0, b1, b2, b3, -⟩ := qao u (H3.out.two)
 simp only [Tm.val] at VV ⊢;have VV := Lib.hid VV;go_enter Tryz.func25, Tryz.ntmps25
 go_wp2_with fail
 rw [← HV.out];go_wp2_with fail
 refine VV.out.mono ?_; clear VV a0 a1 a2 a3 b0 b1 b2 b3;rintro e w1 ⟨rfl, hl1⟩;have H4 := Lib.hid (H3.out.go hl1.below); clear H3 hl1;obtain ⟨z0, z1, z2, z3, zf⟩ := qad H4.out.three;rcases eq_facts v2 0 with ⟨e0, e1, n1⟩ | ⟨e0, e1, n1⟩
 rotate_left
 ·have hr := HR.out.trans (if_pos e0);have HR2 := Lib.hid hr; clear HR hr;go_wp2_with fail
  refine bodyPost_ret (v := .tuple #[.agg #[.int .i64 0, .string ⟨#[]⟩, .int .i64 0, .slice none 0 0], .int .i64 v2]) ?_ rfl ?_
  ·simp [results, Tryz.results25, go_sem, z0, z1, z2, z3]
  rw [HR2.out];exact qjr (r := (.mk 0 ⟨#[]⟩ 0 [], v2)) (A := none) (c := 0) H4.out.bel (by omega) (qil _ _ _ (Nat.zero_le _))
 have hvt := qcf (HV2.out.symm.trans e0);have hMB := HMB.out e0;have hr := HR.out.trans (if_neg (by simpa using e0));have HR2 := Lib.hid hr; clear HR hr HMB;clear e0;have hlt4 := H4.out.lt;obtain ⟨W1, hW1⟩ : ∃ W1, W1 = w1.alloc (.map #[] 0) := ⟨_, rfl⟩;have bW1 : Below w1.heap.size w1 W1 := by rw [hW1]; exact qah (Nat.le_refl _) _
 have sW1 : W1.heap.size = w1.heap.size + 1 := by rw [hW1]; simp
 have iW1 : qde W1 w1.heap.size 0 [] := by rw [hW1]; exact qde.made w1
 obtain ⟨W2, hW2⟩ : ∃ W2, W2 = W1.alloc (.cells #[.map (some w1.heap.size), .int .i64 0, .slice none 0 0, .slice none 0 0] 73) := ⟨_, rfl⟩;have bW2 : Below W1.heap.size W1 W2 := by rw [hW2]; exact qah (Nat.le_refl _) _
 have sW2 : W2.heap.size = w1.heap.size + 1 + 1 := by rw [hW2]; simp [sW1]
 have cW2 : W2.heap[w1.heap.size + 1]? = some (qjt w1.heap.size 0 (.slice none 0 0) (.slice none 0 0)) := by rw [hW2, ← sW1]; exact heap_alloc_new _ _
 have b12 : Below w1.heap.size w1 W2 := qac bW1 bW2 bW1.size;have HWE : Hid (W2 = (w1.alloc (.map #[] 0)).alloc (.cells #[.map (some w1.heap.size), .int .i64 0, .slice none 0 0, .slice none 0 0] 73)) := by rw [hW2, hW1]; exact rfl
 have H5 := Lib.hid (H4.out.go b12); clear H4;have HST := Lib.hid (iW1.keep (bW2.block _ (by omega))); clear iW1;have HCL := Lib.hid cW2; clear cW2 hW1 hW2 bW1 bW2 b12 sW1;clear z0 z1 z2 z3 zf;go_wp2_with fail
 rw [← HWE.out];obtain ⟨mb, hmb⟩ : ∃ mb, mb = w1.heap.size := ⟨_, rfl⟩;rw [← hmb] at hlt4 sW2 HST HCL ⊢;clear HWE hmb;refine qaq (fun _ => True) (fun Y => Below W2.drew.heap.size W2.drew Y) [] (.held 0 (.held 2 (.held 7 (.op 1 (.op 3 (.op 4 (.op 5 (.op 6 .nil)))))))) mixed (by kernel_rfl) ?_;have H6 := Lib.hid (H5.out.go (Z' := W2.drew) (Below.refl _ _).drew); clear H5;have HST2 : Hid (qde W2.drew mb 0 []) := HST.out.keep rfl;have HCL2 : Hid (W2.drew.heap[mb + 1]? = some (qjt mb 0 (.slice none 0 0) (.slice none 0 0))) := HCL.out;have sD : W2.drew.heap.size = mb + 1 + 1 := sW2;clear HST HCL sW2;generalize W2.drew = D at *;obtain ⟨a0, a1, a2, a3, -⟩ := qao t (H6.out.one);obtain ⟨b0, b1, b2, b3, -⟩ := qao u (H6.out.two)
 refine qaa (v := .agg #[.int .i64 t.kind, .string t.name, .int .i64 t.sort, .slice T t.kids.length ct]) rfl rfl rfl (fun _ _ _ h => h) trivial (Below.refl _ _) (fun Y _ hY => by
  have z0 := (hY.cell (p := ⟨w.heap.size, 0, none⟩) (by show w.heap.size < _; omega)).trans a0;have z1 := (hY.cell (p := ⟨w.heap.size, 1, none⟩) (by show w.heap.size < _; omega)).trans a1;have z2 := (hY.cell (p := ⟨w.heap.size, 2, none⟩) (by show w.heap.size < _; omega)).trans a2;have z3 := (hY.cell (p := ⟨w.heap.size, 3, none⟩) (by show w.heap.size < _; omega)).trans a3
  (try simp only [Act.put]); go_simp) ?_
 refine qaa (v := .agg #[.int .i64 u.kind, .string u.name, .int .i64 u.sort, .slice U u.kids.length cu]) rfl rfl rfl (fun _ _ _ h => h) trivial (Below.refl _ _) (fun Y _ hY => by
  have z0 := (hY.cell (p := ⟨w.heap.size + 1, 0, none⟩) (by show w.heap.size + 1 < _; omega)).trans b0;have z1 := (hY.cell (p := ⟨w.heap.size + 1, 1, none⟩) (by show w.heap.size + 1 < _; omega)).trans b1;have z2 := (hY.cell (p := ⟨w.heap.size + 1, 2, none⟩) (by show w.heap.size + 1 < _; omega)).trans b2;have z3 := (hY.cell (p := ⟨w.heap.size + 1, 3, none⟩) (by show w.heap.size + 1 < _; omega)).trans b3
  (try simp only [Act.put]); go_simp) ?_
 refine qaa (v := .int .i64 0) rfl rfl rfl (fun _ _ _ h => h) trivial (Below.refl _ _) (fun Y _ hY => by
  (try simp only [Act.put]); go_simp) ?_
 simp only [Act.put, List.setIfInBounds_toArray];clear a0 a1 a2 a3 b0 b1 b2 b3;have V1 := qii t T ct D ht (HUP.out D _ _ _ H6.out.bel HRT.out);simp only [Tm.val] at V1;have V1 := Lib.hid V1;refine qaf rfl rfl (fun K hK => ?_);go_wp2_with fail
 refine V1.out.mono ?_; clear V1;rintro e w5 ⟨v5, its5, rfl, hrow5, hb5, his5⟩;refine hK _ _ ⟨⟨fun _ => trivial, hb5⟩, ?_⟩;clear hK K;have H7 := Lib.hid (H6.out.go hb5);have V2 := qii u U cu w5 hu (HUP.out w5 _ _ _ H7.out.bel HRU.out);simp only [Tm.val] at V2;have V2 := Lib.hid V2;refine qaf rfl rfl (fun K hK => ?_);go_wp2_with fail
 refine V2.out.mono ?_; clear V2;rintro e w6 ⟨v6, its6, rfl, hrow6, hb6, his6⟩;have hb56 := qac hb5 hb6 hb5.size;refine hK _ _ ⟨⟨fun _ => trivial, hb56⟩, ?_⟩;clear hK K;obtain ⟨A5, c5, hv5, hS5⟩ := (hrow5.below hb6).toS (P := fun b => b < w6.heap.size) (fun b _ h => h) (fun b _ h => h);obtain ⟨A6, c6, hv6, hS6⟩ := hrow6.toS (P := fun b => b < w6.heap.size) (fun b _ h => h) (fun b _ h => h);rw [his5] at hS5;rw [his6] at hS6;subst hv5 hv6;have hl5 : its5.length = (varsOf t).length := by rw [← List.length_map (f := (·.1)), his5]; rfl
 have hl6 : its6.length = (varsOf u).length := by rw [← List.length_map (f := (·.1)), his6]; rfl
 have hvl5 := qbv t;have hvl6 := qbv u;have ht4 := qak hvt.1;have hu4 := qak hvt.2;obtain ⟨W7, hW7⟩ : ∃ W7, W7 = w6.alloc (.cells #[.slice A5 its5.length c5, .slice A6 its6.length c6] 22) := ⟨_, rfl⟩;have bW7 : Below w6.heap.size w6 W7 := by rw [hW7]; exact qah (Nat.le_refl _) _
 have cW7 : W7.heap[w6.heap.size]? = some (.cells #[.slice A5 (varsOf t).length c5, .slice A6 (varsOf u).length c6] 22 (0, 0)) := by rw [hW7, ← hl5, ← hl6]; exact heap_alloc_new _ _
 have sW7 : W7.heap.size = w6.heap.size + 1 := by rw [hW7]; simp
 have CC := qni (varsOf t) (varsOf u) A5 A6 c5 c6 w6.heap.size W7 (by omega) (by omega) cW7 (RepS.mono (fun b (h : b < _) => by omega) (fun p hp => bW7.cell hp) hS5) (RepS.mono (fun b (h : b < _) => by omega) (fun p hp => bW7.cell hp) hS6);obtain ⟨L, hL⟩ : ∃ L, L = qgq t u := ⟨_, rfl⟩;have hLe : varsOf t ++ varsOf u = L := hL.symm;rw [hLe] at CC;have CC := Lib.hid CC;have HL := Lib.hid hL; clear hL hLe;have HW7 := Lib.hid hW7; clear hW7;have hbD7 := qac hb56 bW7 hb56.size;have H8 := Lib.hid (H6.out.go hbD7); clear H6 H7;clear cW7 hS5 hS6 hl5 hl6 his5 his6 hrow5 hrow6 bW7;refine qaf rfl rfl (fun K hK => ?_);go_wp2_with fail
 rw [← HW7.out];refine ⟨⟨fun _ => trivial, hbD7⟩, ?_⟩;clear HW7;refine qaf rfl rfl (fun K hK => ?_);go_wp2_with fail
 refine CC.out.mono ?_; clear CC;rintro e w8 ⟨A8, c8, its8, rfl, hrow8, his8, hb8⟩;have hbD8 := qac hbD7 hb8 hbD7.size;refine hK _ _ ⟨⟨fun _ => trivial, hbD8⟩, ?_⟩;clear hK K;refine qaf rfl rfl (fun K hK => ?_);go_wp2_with fail
 refine ⟨⟨fun _ => trivial, hbD8⟩, qaw ?_⟩;have hleaf : ∀ x ∈ L, x.kids = [] ∧ qb4 x := fun x hx => by
  rw [HL.out] at hx;rcases List.mem_append.1 hx with h | h
  ·exact qdb hvt.1 x h
  ·exact qdb hvt.2 x h
 have hLl : L.length ≤ 800 := by rw [HL.out]; unfold qgq; rw [List.length_append]; omega
 rw [← HL.out] at hMB;have hrowL := qgy hrow8 (fun x hx => (hleaf x.1 (by rw [← his8]; exact List.mem_map_of_mem hx)).1);have hs7 : mb + 1 < W7.heap.size := by have := hbD7.size; omega
 have hGL : GlAt w (boxT t T ct) (boxT u U cu) (.cells #[.int .i64 0, .string ⟨#[]⟩, .int .i64 0, .slice none 0 0] 24 (0, 0)) mb L its8 A8 c8 W7.heap.size 0 w8 :=
  ⟨H8.out.go hb8, (hbD8.block _ (by omega)).trans HCL2.out, HST2.out.keep (hbD8.block _ (by omega)), hrowL, his8⟩
 obtain ⟨base, hbase⟩ : ∃ base, base = W7.heap.size := ⟨_, rfl⟩;rw [← hbase] at hGL hs7;have HGL := Lib.hid hGL;have HLF := Lib.hid hleaf; clear hleaf;have HMB := Lib.hid hMB;have HVT := Lib.hid hvt;clear hGL hMB hvt hrowL hrow8 his8 hb8 hbD8 hbD7 hb56 hb6 hb5 H8 HST2 HCL2 hbase sW7 sD hvl5 hvl6;go_wp2_with fail
 go_loopw [27] (fun i wr => ∃ k : Nat, k ≤ L.length ∧ i = .int .i64 k ∧ Hid (GlAt w (boxT t T ct) (boxT u U cu) (.cells #[.int .i64 0, .string ⟨#[]⟩, .int .i64 0, .slice none 0 0] 24 (0, 0)) mb L its8 A8 c8 base k wr)) (fun i _ => L.length - (intOf i).toNat)
 case atStart => exact ⟨0, Nat.zero_le _, rfl, HGL.out⟩
 case round =>
  clear HGL;obtain ⟨k, hk, rfl, HG⟩ := hrel;have i1 : (0 : Int) ≤ (k : Int) := Int.natCast_nonneg _;by_cases hlt : k < L.length
  ·have i2 : (k : Int) < (L.length : Int) := by omega
   have hil : its8.length = L.length := by rw [← HG.out.is, List.length_map]
   obtain ⟨gA, rfl⟩ : ∃ gA, A8 = some ⟨gA, 0, none⟩ := by
    rcases HG.out.row.own.2 with ⟨h, h2⟩ | ⟨vb, cap, cur, h, -⟩
    ·omega
    ·injection h with h; exact ⟨vb, h⟩
   obtain ⟨m0, m1, m2, m3, -⟩ := HG.out.row.slot hil.symm k (by omega);have hx1 : (its8[k]'(by omega)).1 = L[k] := by
    have h := congrArg (·[k]?) HG.out.is;simpa [List.getElem?_eq_getElem (show k < its8.length by omega), List.getElem?_eq_getElem hlt] using h
   obtain ⟨hxk, hxn, -, -⟩ := HLF.out L[k] (List.getElem_mem hlt);obtain ⟨x, hx⟩ : ∃ x, x = its8[k]'(by omega) := ⟨_, rfl⟩;rw [← hx] at m0 m1 m2 m3 hx1;obtain ⟨y, Ay, cy⟩ := x;dsimp only at m0 m1 m2 m3 hx1;rw [← hx1] at hxn;obtain ⟨X, hX⟩ : ∃ X, X = wr.alloc (.cells #[.int .i64 y.kind, .string y.name, .int .i64 y.sort, .slice Ay y.kids.length cy] 24) := ⟨_, rfl⟩;have hbX : Below wr.heap.size wr X := by rw [hX]; exact qah (Nat.le_refl _) _
   have hX2 := HG.out.go hbX;have hux : X.heap[wr.heap.size]? = some (.cells #[.int .i64 y.kind, .string y.name, .int .i64 y.sort, .slice Ay y.kids.length cy] 24 (0, 0)) := by rw [hX]; exact heap_alloc_new _ _
   have hD2 := hX2.go (Z' := X.drew) (Below.refl _ _).drew;have hXd : Hid (X.drew.heap[wr.heap.size]? = some (.cells #[.int .i64 y.kind, .string y.name, .int .i64 y.sort, .slice Ay y.kids.length cy] 24 (0, 0))) := hux;have HX := Lib.hid hX;have HX1 := Lib.hid hx1;have HGX := Lib.hid hD2;clear hx hX2 hbX hX hux hx1 hD2 hil;go_wp2_with fail
   rw [← HX.out];refine qaq (fun Y => Below X.drew.heap.size X.drew Y) (fun _ => True) [6] (.held 0 (.held 1 (.held 2 (.held 3 (.held 4 (.held 5 (.op 6 .nil))))))) mixed (by kernel_rfl) ?_;clear HX;generalize X.drew = D at *;have hlw := HGX.out.box.lt;have hmD := HGX.out.set.lt;have hwD := (Array.getElem?_eq_some_iff.1 hXd.out).1;have hcD := (Array.getElem?_eq_some_iff.1 HGX.out.cell).1;obtain ⟨c0, -, -, -, -⟩ := qad (show D.heap[mb + 1]? = some (.cells #[.map (some mb), .int .i64 ((0 : Nat) : Int), .slice none 0 0, .slice none 0 0] 73 (0, 0)) from HGX.out.cell);obtain ⟨-, d1, -, -, -⟩ := qad hXd.out;refine qaa (v := .pointer (some ⟨mb + 1, 0, none⟩)) rfl rfl rfl (fun _ _ _ h => h) (Below.refl _ _) trivial (fun Y hY _ => by (try simp only [Act.put]); go_simp) ?_
   refine qaa (v := .pointer (some ⟨mb + 1, 0, none⟩)) rfl rfl rfl (fun _ _ _ h => h) (Below.refl _ _) trivial (fun Y hY _ => by (try simp only [Act.put]); go_simp) ?_;refine qaa (v := .pointer (some ⟨mb + 1, 0, none⟩)) rfl rfl rfl (fun _ _ _ h => h) (Below.refl _ _) trivial (fun Y hY _ => by (try simp only [Act.put]); go_simp) ?_;refine qaa (v := .map (some mb)) rfl rfl rfl (fun _ _ _ h => h) (Below.refl _ _) trivial (fun Y hY _ => by
    have z0 := (hY.cell (p := ⟨mb + 1, 0, none⟩) (by show mb + 1 < _; omega)).trans c0
    (try simp only [Act.put]); go_simp) ?_
   refine qaa (v := .pointer (some ⟨wr.heap.size, 1, none⟩)) rfl rfl rfl (fun _ _ _ h => h) (Below.refl _ _) trivial (fun Y hY _ => by (try simp only [Act.put]); go_simp) ?_;refine qaa (v := .string y.name) rfl rfl rfl (fun _ _ _ h => h) (Below.refl _ _) trivial (fun Y hY _ => by
    have z0 := (hY.cell (p := ⟨wr.heap.size, 1, none⟩) (by show wr.heap.size < _; omega)).trans d1
    (try simp only [Act.put]); go_simp) ?_
   simp only [Act.put, List.setIfInBounds_toArray];obtain ⟨N3, hrun3, hset3, hturn3⟩ := HGX.out.set.store (by unfold maxLen; omega) (s := y.name) hxn;rw [HX1.out] at hset3;have HG3 := Lib.hid (HGX.out.turn (by omega) hs7 hlt hset3 hturn3);clear c0 d1 hset3 hturn3 m0 m1 m2 m3;refine qaf rfl rfl (fun K hK => ?_);refine qi2 (by rfl) 71 (.tmp 34) (.tmp 36) (.const (.bool true)) (by rfl) (by rfl) (by rfl) (by rfl) hrun3 ?_;refine hK _ _ ⟨⟨fun h => absurd h (by decide), trivial⟩, qaw ?_⟩;clear hK K;go_wp2_with fail
   go_roundw
   case rel => exact ⟨k + 1, by omega, by go_num, HG3.out⟩
   case measure => simp [intOf]; omega
  ·obtain rfl : k = L.length := by omega
   have hset := HG.out.set;rw [List.take_length] at hset;have hbx := HG.out.box;have hlw := hbx.lt;have hgw := (Array.getElem?_eq_some_iff.1 HG.out.cell).1;have hgen : GenAt (mb + 1) mb L.length w.heap.size (L.map Tm.name) gs0 none 0 none 0 [] [] wr :=
    ⟨HG.out.cell, hset, RowG.nil _ _ _ _, RowT.nil _ _ _, rfl, rfl, by simp, fun b e => by cases e⟩
   have hws := HW0.out.size;have OF := of_any (mb + 1) mb L.length w.heap.size (L.map Tm.name) w0 M HII.out (by omega) (Nat.lt_succ_self _) (by omega) hM t.size t u T U ct cu gs0 none 0 none 0 [] [] wr (Nat.le_refl _) HVT.out.1 HVT.out.2 (gs0_ok _)
    (by show ((L.map Tm.name).length + 1) * (0 + t.size) < M; rw [List.length_map, Nat.zero_add]; exact HMB.out) (by show 0 + t.size ≤ _; omega) (fun p hp => by cases hp) hgen (HW0.out.trans (hbx.bel.mono hws)) (RepP.mono (fun _ h => h) (fun p (hp : p.block < w.heap.size) => hbx.bel.cell hp) _ _ _ HRT.out) (RepP.mono (fun _ h => h) (fun p (hp : p.block < w.heap.size) => hbx.bel.cell hp) _ _ _ HRU.out)
   have hge : (t.gen (L.map Tm.name) u gs0).1 = genE t u := by rw [HL.out]; exact qng t u
   obtain ⟨q, hq⟩ : ∃ q, q = t.gen (L.map Tm.name) u gs0 := ⟨_, rfl⟩;rw [← hq] at OF hge;obtain ⟨q1, q2⟩ := q;change q1 = genE t u at hge;rw [← hge] at HR2;simp only [Tm.val] at OF;have OF := Lib.hid OF;have HGE := Lib.hid hge;clear hq hge hgen;obtain ⟨a0, a1, a2, a3, -⟩ := qao t (hbx.one);obtain ⟨b0, b1, b2, b3, -⟩ := qao u (hbx.two);have HBX := Lib.hid hbx; clear hbx hset;go_wp2_with fail
   refine OF.out.mono ?_; clear OF a0 a1 a2 a3 b0 b1 b2 b3;rintro e w9 ⟨A9, c9, PA', Pc', VA', Vc', its', vts', rfl, hof⟩;have h39 := (hof.old (w.heap.size + 1 + 1) (by omega) (by omega) (fun e => by cases e) (fun e => by cases e)).trans HBX.out.three;obtain ⟨f0, f1, f2, f3, ff⟩ := qad h39;have hs9 := hof.size;have hb9 : Below w.heap.size w w9 := HBX.out.bel.trans (hof.bel.mono (by omega));have hr9 : RepP w9 (fun b => b < w9.heap.size ∧ b ≠ w.heap.size + 1 + 1) q1 A9 c9 := RepP.mono (fun b h => by
    rcases h with h | ⟨h1, h2, -⟩
    ·exact ⟨by omega, by omega⟩
    ·exact ⟨h2, by omega⟩) (fun _ _ => rfl) _ _ _ hof.rep
   have HB9 := Lib.hid hb9; clear hb9 hof;have HR9 := Lib.hid hr9; clear hr9;simp only [Tm.val];go_wp2_with fail
   refine bodyPost_ret (v := .tuple #[.agg #[.int .i64 q1.kind, .string q1.name, .int .i64 q1.sort, .slice A9 q1.kids.length c9], .int .i64 0]) ?_ rfl ?_
   ·simp [results, Tryz.results25, go_sem, f0, f1, f2, f3]
   rw [HR2.out];exact qjr (r := (q1, 0)) HB9.out (by omega) HR9.out
end Go.Proofs.YtpjmdilpldaapaaGreatDoor
