/- Ugcat, Ugenl, Urcho, Uasc, Usolve, Ursol, Uunify, Uterm0, UsameB, Uaw0 (joined by shake.py). -/
import Derived.Test.YtpjmdilpldaapaaGreatDoorJ5
import Derived.Test.YtpjmdilpldaapaaGreatDoorJ6
import Derived.Test.YtpjmdilpldaapaaGreatDoorJ11
import Derived.Test.YtpjmdilpldaapaaGreatDoorJ12
import Derived.Test.YtpjmdilpldaapaaGreatDoorJ13
import Derived.Laws.OwnMore
set_option maxRecDepth 100000
namespace Go.Proofs.YtpjmdilpldaapaaGreatDoor
open Go.RowKit Go.Sort
theorem grow_run (w : World) (n : Nat) (h0 : 0 < n) (hn : n ≤ 1000000) (ty : TypeId) :
  ∃ cap w', (Builtin.append_ #[22, 3] ty #[.slice none 0 0, .int .i64 n]).run Tryz.prog w = .ok (.slice (some ⟨w.heap.size, 0, none⟩) n cap) w' ∧ n ≤ cap ∧ RowT w' w.heap.size (fun _ => True) (.slice (some ⟨w.heap.size, 0, none⟩) 0 cap) [] ∧ Below w.heap.size w w' := by
 obtain ⟨i0, hi0, hz0, hz1, hz2⟩ := info_parts qca;have hcap := grownCap_ge w n 0 24;have hcap2 := grownCap_le_maxLen w n 0 24 (by unfold maxLen; omega);obtain ⟨zz, hzz⟩ : ∃ z : Value, z = .agg #[.int .i64 0, .string ⟨#[]⟩, .int .i64 0, .slice none 0 0] := ⟨_, rfl⟩;have hzs : zz.cells.size = 4 := by rw [hzz]; rfl
 rw [← hzz] at hz0;refine ⟨grownCap w n 0 24, w.drew.alloc (.cells (Builtin.zeroCells zz.cells n ++ Builtin.zeroCells zz.cells (grownCap w n 0 24 - n)) 24), ?_, hcap, ⟨⟨by simp [itCells], .inr ⟨w.heap.size, _, _, rfl, Nat.le_refl _, heap_alloc_new w.drew _, Nat.zero_le _, hcap2, ?_, by simp [itCells]⟩⟩, by simp⟩, ?_⟩
 ·have hn0 : n ≠ 0 := by omega
  have h63' : ¬ (9223372036854775807 < (n : Int)) := by omega
  have h48' : ¬ (281474976710656 < Builtin.nextslicecap n 0 * i0.bytes) := by rw [nextslicecap_zero h0, hz2]; omega
  have hw : IntKind.i64.wrap (n : Int) = (n : Int) := by rw [IntKind.wrap_i64]; omega
  have hneg : ¬ ((n : Int) < 0) := by omega
  have hbig : ¬ (281474976710656 < (n : Int) * (i0.bytes : Int)) := by rw [hz2]; omega
  have hsz : ¬ (n * i0.size = 0) := by rw [hz1]; omega
  simp [Builtin.append_, run_underlying Tryz.underlying22, run_underlying Tryz.underlying3, sizeOf, typeInfo, zeroValue, hi0, hz0, hn0, h63', h48', Question.forced, run_firstCells_none, newRow, grownCap, asInt, asIntOf, hw, hneg, hbig, hsz]
 ·simp only [Array.size_append, size_zeroCells, hzs, ← Nat.add_mul]
  congr 1
  omega
 ·exact (Below.refl _ _).drew.alloc (Nat.le_refl _) _
theorem qfa {w w' : World} {ops : Array Oper} {rest : List Oper} {o : Oper} {a : Act} {Q : Exit → Act → World → Prop} {v u v' : Value} {t t2 : TypeId} (hgd : o.guard = none) (s x : Operand)
  (ho : o.op = .call { callee := .builtin .append, args := #[s, x], argTypes := #[t, t2] }) (hs : a.eval s = v) (hx : a.eval x = u)
  (hrun : ∀ ty, (Builtin.append_ #[t, t2] ty #[v, u]).run Tryz.prog w = .ok v' w') (h : wpList Tryz.prog ops Q rest (a.put o.dst v') w') : wpList Tryz.prog ops Q (o :: rest) a w := by
 refine wpList_plain hgd fun K hK => ?_;unfold Oper.wp execOp;simp only [ho, resolve, invoke, builtin, Sem.run_bind, Sem.run_pure, Result.andThen_ok, List.map_toArray, List.map_cons, List.map_nil, hs, hx, hrun];exact hK _ _ h
def Grew (w : World) (e : Ending) (w' : World) : Prop := ∃ A c, e = .returned (.slice A 0 c) ∧ RowT w' w.heap.size (fun _ => True) (.slice A 0 c) [] ∧ Below w.heap.size w w'
set_option maxHeartbeats 1000000 in
theorem grow_any (n : Nat) (hn : n ≤ 1000000) (w : World) : Calls Tryz.prog 69 #[.slice none 0 0, .int .i64 n] w (Grew w) := by
 rcases Nat.eq_zero_or_pos n with rfl | h0
 ·go_enter Tryz.func69, Tryz.ntmps69
  go_wp2_with fail
  go_ret
  exact ⟨none, 0, rfl, RowT.nil _ _ _, Below.refl _ _⟩
 ·have i1 : (0 : Int) < (n : Int) := by omega
  have i2 : ¬ ((n : Int) < 0) := by omega
  have hr : ∃ cap w', (∀ ty, (Builtin.append_ #[22, 3] ty #[.slice none 0 0, .int .i64 n]).run Tryz.prog w = .ok (.slice (some ⟨w.heap.size, 0, none⟩) n cap) w') ∧ n ≤ cap ∧ RowT w' w.heap.size (fun _ => True) (.slice (some ⟨w.heap.size, 0, none⟩) 0 cap) [] ∧ Below w.heap.size w w' := by
   obtain ⟨cap, w', h1, h2⟩ := grow_run w n h0 hn 0;exact ⟨cap, w', fun _ => h1, h2⟩
  obtain ⟨cap, w', hap, hcap, hrow, hb⟩ := hr;have HROW := Lib.hid hrow; clear hrow;have HB := Lib.hid hb; clear hb;obtain ⟨g, hg⟩ : ∃ g, g = w.heap.size := ⟨_, rfl⟩;rw [← hg] at hap HROW;go_enter Tryz.func69, Tryz.ntmps69
  go_wp2_with (at_builtin; refine qfa rfl _ _ rfl rfl rfl hap ?_)
  go_ret
  have hrow := HROW.out;rw [hg] at hrow;exact ⟨some ⟨w.heap.size, 0, none⟩, cap, rfl, hrow, HB.out⟩
theorem qeg {w : World} {base n : Nat} {v : Value} {xs : List Value} (hown : w.ownsRow base 24 4 v n xs) (A : Option Addr) (c : Nat) (ty : TypeId) :
  (Builtin.append_ #[22, 22] ty #[v, .slice A 0 c]).run Tryz.prog w = .ok v w := by
 obtain ⟨i0, hi0, hz0, hz1, hz2⟩ := info_parts qca;rcases hown.2 with ⟨rfl, rfl⟩ | ⟨g, cap, cur, rfl, _, _, hnc, _⟩
 ·cases A <;> simp [Builtin.append_, run_underlying Tryz.underlying22, sizeOf, typeInfo, hi0, Builtin.lenOf, Builtin.firstCells, loadCells, loadCellsFrom]
 ·cases A <;> simp [Builtin.append_, run_underlying Tryz.underlying22, sizeOf, typeInfo, hi0, Builtin.lenOf, Builtin.firstCells, hnc, storeCells, loadCells, loadCellsFrom]
theorem qit {w : World} {base : Nat} {v : Value} {its : List It} {B : Nat} (hrow : RowT w base (fun b => b < B) v its) (hB : B ≤ base) (hbase : base ≤ w.heap.size) {l : List Tm} {A : Option Addr} {c : Nat} (hS : RepS w (fun b => b < B) l A c) (hlen : its.length + l.length ≤ 100000000) :
  ∃ A' c' w' it2, it2.map (·.1) = l ∧ (∀ ty, (Builtin.append_ #[22, 22] ty #[v, .slice A l.length c]).run Tryz.prog w = .ok (.slice A' (its.length + l.length) c') w') ∧
   RowT w' base (fun b => b < B) (.slice A' (its.length + l.length) c') (its ++ it2) ∧ (∀ W0 B0, Below B0 W0 w → B0 ≤ base → Below B0 W0 w') := by
 have grown : ∀ {w1 : World}, w.grownBy w1 v.ownBlock → ∀ W0 B0, Below B0 W0 w → B0 ≤ base → Below B0 W0 w1 := fun hg W0 B0 hb hB0 =>
  qar hb (by omega) hg (fun k hk => by have := (hrow.lt k hk).1; omega)
 rcases hS.2.2 with h | ⟨b, off, rfl, hbB, hl⟩
 ·subst h;have hc0 : ∀ ty, (Builtin.append_ #[22, 22] ty #[v, .slice A 0 c]).run Tryz.prog w = .ok v w := fun ty => qeg hrow.own A c ty;rcases hrow.own.2 with ⟨hv, h0⟩ | ⟨g, cap, cur, hv, _⟩
  ·refine ⟨none, 0, w, [], rfl, fun ty => ?_, ?_, fun _ _ h _ => h⟩
   ·rw [hv] at hc0; rw [hv, h0]; exact hc0 ty
   ·rw [hv] at hrow; rw [List.append_nil, h0]; exact hrow
  ·refine ⟨some ⟨g, 0, none⟩, cap, w, [], rfl, fun ty => ?_, ?_, fun _ _ h _ => h⟩
   ·have h2 := hc0 ty; rw [hv] at h2; rw [hv]; exact h2
   ·rw [hv] at hrow; rw [List.append_nil]; exact hrow
 ·obtain ⟨it2, hm, hc, hr⟩ := qal.its l b off hl;have hl2 : l.length = it2.length := by rw [← hm, List.length_map]
  obtain ⟨A', c', w', h1, h2, h3, -⟩ := hrow.more (fun b h => by omega) hbase b off c l.length it2 hl2 hc hr hlen;exact ⟨A', c', w', it2, hm, h1, h2, grown h3⟩
def Catted (L : List Tm) (w : World) (e : Ending) (w' : World) : Prop :=
 ∃ A c its, e = .returned (.slice A L.length c) ∧ RowT w' w.heap.size (fun b => b < w.heap.size) (.slice A L.length c) its ∧ its.map (·.1) = L ∧ Below w.heap.size w w'
set_option maxHeartbeats 2000000 in
theorem qom (l m : List Tm) (A0 A1 : Option Addr) (c0 c1 sb : Nat) (w : World) (hl : l.length ≤ 100000) (hm : m.length ≤ 100000)
  (hx : w.heap[sb]? = some (.cells #[.slice A0 l.length c0, .slice A1 m.length c1] 22 (0, 0))) (h0 : RepS w (fun b => b < w.heap.size) l A0 c0) (h1 : RepS w (fun b => b < w.heap.size) m A1 c1) :
  Calls Tryz.prog 43 #[.slice (some ⟨sb, 0, none⟩) 2 2] w (Catted (l ++ m) w) := by
 have hsb := (Array.getElem?_eq_some_iff.1 hx).1;have x0 : w.cell? ⟨sb, 0, none⟩ = some (.slice A0 l.length c0) := by simp [World.cell?, hx]
 have x1 : w.cell? ⟨sb, 1, none⟩ = some (.slice A1 m.length c1) := by simp [World.cell?, hx]
 have GR := grow_any (l.length + m.length) (by omega) w;rw [show ((l.length + m.length : Nat) : Int) = (l.length : Int) + (m.length : Int) by omega] at GR;have GR := Lib.hid GR;have H0 := Lib.hid h0; clear h0;have H1 := Lib.hid h1; clear h1;have i1 : (0 : Int) ≤ (l.length : Int) := by omega
 have i2 : (0 : Int) ≤ (m.length : Int) := by omega
 have i3 : ¬ ((l.length : Int) < 0) := by omega
 have i4 : ¬ ((l.length : Int) + (m.length : Int) < 0) := by omega
 go_enter Tryz.func43, Tryz.ntmps43
 go_wp2_with fail
 refine wp_loop_rounds 3 ?_;rw [rounds_succ];go_wp2_with fail
 rw [rounds_succ];go_wp2_with fail
 rw [rounds_succ];go_wp2_with fail
 refine GR.out.mono ?_; clear GR x0 x1;rintro e w1 ⟨A, c, rfl, hrow, hb⟩;have hrow' : RowT w1 w.heap.size (fun b => b < w.heap.size) (.slice A 0 c) [] := ⟨hrow.own, by simp⟩;have up : ∀ {Z : World} {t : List Tm} {T : Option Addr} {k : Nat}, Below w.heap.size w Z → RepS w (fun b => b < w.heap.size) t T k → RepS Z (fun b => b < w.heap.size) t T k := fun hZ h => RepS.mono (fun _ h => h) (fun p hp => hZ.cell hp) h;obtain ⟨A2, c2, w2, it2, hm2, hap1, hrow2, hg2⟩ := qit hrow' (Nat.le_refl _) hb.size (up hb H0.out) (by simp; omega);have hb2 := hg2 _ _ hb (Nat.le_refl _);simp only [List.length_nil, Nat.zero_add, List.nil_append] at hap1 hrow2;have hl2 : it2.length = l.length := by rw [← hm2, List.length_map]
 rw [← hl2] at hrow2;obtain ⟨A3, c3, w3, it3, hm3, hap2, hrow3, hg3⟩ := qit hrow2 (Nat.le_refl _) hb2.size (up hb2 H1.out) (by omega);have hb3 := hg3 _ _ hb2 (Nat.le_refl _);rw [hl2] at hap2 hrow3;have x0 : w1.cell? ⟨sb, 0, none⟩ = some (.slice A0 l.length c0) := by rw [hb.cell (show sb < _ from hsb)]; simp [World.cell?, hx]
 have x1 : w2.cell? ⟨sb, 1, none⟩ = some (.slice A1 m.length c1) := by rw [hb2.cell (show sb < _ from hsb)]; simp [World.cell?, hx]
 have HROW := Lib.hid hrow3; clear hrow3 hrow2 hrow' hrow hg2 hg3;have HB := Lib.hid hb3; clear hb3 hb2 hb;have HM : Hid ((it2 ++ it3).map (·.1) = l ++ m) := by show _ = _; rw [List.map_append, hm2, hm3]
 clear hm2 hm3 hl2 hx up i1 i2 i3 i4;go_wp2_with fail
 refine wp_loop_rounds 3 ?_;rw [rounds_succ];go_wp2_with (at_builtin; refine qaj rfl _ _ rfl rfl rfl hap1 ?_)
 rw [rounds_succ];go_wp2_with (at_builtin; refine qaj rfl _ _ rfl rfl rfl hap2 ?_)
 rw [rounds_succ];go_wp2_with fail
 go_ret
 exact ⟨A3, c3, it2 ++ it3, by rw [List.length_append]; rfl, by rw [List.length_append]; exact HROW.out, HM.out, HB.out⟩
end Go.Proofs.YtpjmdilpldaapaaGreatDoor
namespace Go.Proofs.YtpjmdilpldaapaaGreatDoor
open Go.RowKit Go.Sort Go.Maps
theorem qiz {N N' : List ByteArray} (h : ∀ x, x ∈ N ↔ x ∈ N') (t u : Tm) (g : Gs) : newG N t u g = newG N' t u g ∧ addG N t u g = addG N' t u g := by
 have hn : newG N t u g = newG N' t u g := by unfold newG; rw [qgp h]
 refine ⟨hn, ?_⟩;unfold addG;rw [hn, qgp h]
theorem ql5 {N N' : List ByteArray} (h : ∀ x, x ∈ N ↔ x ∈ N') (t u : Tm) (g : Gs) : qd6 N t u g = qd6 N' t u g := by
 unfold qd6;rw [(qiz h t u g).1, (qiz h t u g).2]
mutual
theorem qk6 {N N' : List ByteArray} (h : ∀ x, x ∈ N ↔ x ∈ N') : ∀ (t u : Tm) (g : Gs), t.gen N u g = t.gen N' u g
 | .mk k n s l, u, g => by rw [Tm.gen, Tm.gen, qi6 h l u.kids g, ql5 h]
theorem qi6 {N N' : List ByteArray} (h : ∀ x, x ∈ N ↔ x ∈ N') : ∀ (l m : List Tm) (g : Gs), Tm.gens N l m g = Tm.gens N' l m g
 | [], m, g => by cases m <;> (rw [Tm.gens, Tm.gens] <;> simp)
 | t :: l, [], g => by rw [Tm.gens, Tm.gens] <;> simp
 | t :: l, u :: m, g => by rw [Tm.gens, Tm.gens, qk6 h t u g, qi6 h l m _]
end
theorem qhb {t u : Tm} (h : qax t u = 0) : t.valid = 0 ∧ u.valid = 0 := by
 unfold qax at h
 split at h
 ·rename_i h1; exact absurd h h1
 ·rename_i h1; exact ⟨by simpa using h1, h⟩
def varsOf (t : Tm) : List Tm := Tm.set (t.all.filter fun u => u.kind == 1)
def qg9 (t u : Tm) : List Tm := varsOf t ++ varsOf u
theorem qkb (t u : Tm) (x : ByteArray) : x ∈ (qg9 t u).map Tm.name ↔ x ∈ namesU t u := by
 unfold qg9 namesU namesT varsOf;simp only [List.map_append, List.mem_append, List.mem_map, Tm.mem_set, List.mem_filter, beq_iff_eq, decide_eq_true_eq]
theorem qbu (t : Tm) : (varsOf t).length ≤ t.size := by
 unfold varsOf;refine Nat.le_trans (Tm.set_length _) (Nat.le_trans (List.length_filter_le _ _) ?_);rw [qic]; exact Nat.le_refl _
theorem qoi (t u : Tm) : (t.gen ((qg9 t u).map Tm.name) u gs0).1 = genE t u := by
 unfold genE;rw [qk6 (qkb t u)]
mutual
theorem check_all : ∀ t : Tm, t.check = 0 → ∀ x ∈ t.all, x.check = 0
 | .mk k n s l, h, x, hx => by
  rw [Tm.all] at hx;rcases List.mem_cons.1 hx with rfl | hx
  ·exact h
  ·rcases qb5 h with ⟨-, rfl⟩ | ⟨-, -, hc⟩
   ·simp [Tm.alls] at hx
   ·exact qjc l hc x hx
theorem qjc : ∀ l : List Tm, Tm.checks l = 0 → ∀ x ∈ Tm.alls l, x.check = 0
 | [], _, x, hx => by simp [Tm.alls] at hx
 | t :: r, h, x, hx => by
  rw [Tm.alls, List.mem_append] at hx;obtain ⟨h1, h2⟩ := qbi h;rcases hx with hx | hx
  ·exact check_all t h1 x hx
  ·exact qjc r h2 x hx
end
theorem qcq {t : Tm} (h : t.valid = 0) : ∀ x ∈ varsOf t, x.kids = [] ∧ qbm x := by
 intro x hx;unfold varsOf at hx;rw [Tm.mem_set, List.mem_filter] at hx;exact check_keyable (check_all t (check_valid h) x hx.1) (by simpa using hx.2)
theorem qe5 {w : World} {base : Nat} {F : Nat → Prop} {v : Value} {its : List It} (h : RowT w base F v its) (hl : ∀ x ∈ its, x.1.kids = []) : RowT w base (fun _ => False) v its := by
 refine ⟨h.own, fun x hx => ?_⟩;have hr := h.reps x hx;have hk := hl x hx;obtain ⟨⟨a1, a2, a3, a4⟩, A, c⟩ := x;have hk : a4 = [] := hk;subst hk;dsimp only at hr ⊢;rw [qbf] at hr ⊢;exact ⟨hr.1, hr.2.1, hr.2.2.1, .inl rfl⟩
structure Box3 (w : World) (o1 o2 o3 : Obj) (Z : World) : Prop where
 one : Z.heap[w.heap.size]? = some o1
 two : Z.heap[w.heap.size + 1]? = some o2
 three : Z.heap[w.heap.size + 1 + 1]? = some o3
 bel : Below w.heap.size w Z
theorem Box3.lt {w Z : World} {o1 o2 o3 : Obj} (h : Box3 w o1 o2 o3 Z) : w.heap.size + 3 ≤ Z.heap.size := (Array.getElem?_eq_some_iff.1 h.three).1
theorem Box3.keep {w Z Z' : World} {o1 o2 o3 : Obj} (h : Box3 w o1 o2 o3 Z) (hb : ∀ k, k < w.heap.size + 3 → w.heap.size ≤ k → Z'.heap[k]? = Z.heap[k]?) (hbel : Below w.heap.size w Z') : Box3 w o1 o2 o3 Z' :=
 ⟨(hb _ (by omega) (by omega)).trans h.one, (hb _ (by omega) (by omega)).trans h.two, (hb _ (by omega) (by omega)).trans h.three, hbel⟩
theorem Box3.go {w Z Z' : World} {o1 o2 o3 : Obj} (h : Box3 w o1 o2 o3 Z) (hb : Below Z.heap.size Z Z') : Box3 w o1 o2 o3 Z' :=
 h.keep (fun k hk _ => hb.block k (by have := h.lt; omega)) (h.bel.trans (hb.mono (by have := h.lt; omega)))
theorem Box3.new (w : World) (o1 o2 o3 : Obj) (h1 : ∀ W : World, (W.alloc o1).heap[W.heap.size]? = some o1) (h2 : ∀ W : World, (W.alloc o2).heap[W.heap.size]? = some o2) (h3 : ∀ W : World, (W.alloc o3).heap[W.heap.size]? = some o3) : Box3 w o1 o2 o3 (((w.alloc o1).alloc o2).alloc o3) := by
 have b1 := qaf (Nat.le_refl w.heap.size) o1;have b2 := qaf (Nat.le_refl (w.alloc o1).heap.size) o2;have b3 := qaf (Nat.le_refl ((w.alloc o1).alloc o2).heap.size) o3;have s1 : (w.alloc o1).heap.size = w.heap.size + 1 := by simp
 have s2 : ((w.alloc o1).alloc o2).heap.size = w.heap.size + 1 + 1 := by simp
 refine ⟨(b3.block _ (by omega)).trans ((b2.block _ (by omega)).trans (h1 w)), (b3.block _ (by omega)).trans ?_, ?_, ?_⟩
 ·rw [← s1]; exact h2 _
 ·rw [← s2]; exact h3 _
 ·exact b1.trans ((b2.mono (by omega)).trans (b3.mono (by omega)))
def genR (t u : Tm) : Tm × Int := if qax t u ≠ 0 then (.mk 0 ⟨#[]⟩ 0 [], qax t u) else (genE t u, 0)
def Genl (r : Tm × Int) (w : World) (e : Ending) (w' : World) : Prop := ∃ A c, e = .returned (.tuple #[r.1.val A c, .int .i64 r.2]) ∧ RepT w' w'.heap.size r.1 A c ∧ Below w.heap.size w w'
theorem qk5 {w Y : World} {r : Tm × Int} {A : Option Addr} {c b : Nat} (hB : Below w.heap.size w Y) (hb : w.heap.size ≤ b) (hrep : RepP Y (fun k => k < Y.heap.size ∧ k ≠ b) r.1 A c) {x y z v : Value} :
  Genl r w (.returned (.tuple #[r.1.val A c, .int .i64 r.2])) ((((Y.setCell ⟨b, 0, none⟩ x).setCell ⟨b, 1, none⟩ y).setCell ⟨b, 2, none⟩ z).setCell ⟨b, 3, none⟩ v) := by
 refine ⟨A, c, rfl, ?_, ?_⟩
 ·refine RepP.mono ?_ ?_ _ _ _ hrep
  ·rintro k ⟨h1, -⟩;simpa [World.setCell] using h1
  ·intro q h1;have hne : q.block ≠ b := h1.2;have hq : ∀ o, (⟨b, o, none⟩ : Addr) ≠ q := fun o e => by rw [← e] at hne; exact hne rfl
   rw [World.cell?_setCell_other _ _ _ _ (hq _), World.cell?_setCell_other _ _ _ _ (hq _), World.cell?_setCell_other _ _ _ _ (hq _), World.cell?_setCell_other _ _ _ _ (hq _)]
 ·iterate 4 refine Below.setCell ?_ (by exact hb) _
  exact hB
theorem qj9 {w w' : World} {o : Oper} {a : Act} {K : Act → World → Prop} {Q : Exit → Act → World → Prop} {m k x : Value} (_hgd : o.guard = none) (t : TypeId) (om ok ox : Operand)
  (ho : o.op = .mapUpdate t om ok ox) (hm : a.eval om = m) (hk : a.eval ok = k) (hx : a.eval ox = x) (hrun : (Instr.mapUpdate t m k x).run Tryz.prog w = .ok () w') (h : K (a.put o.dst undef) w') : Oper.wp Tryz.prog o a w K Q := by
 unfold Oper.wp;simp [execOp, ho, hm, hk, hx, hrun, Result.andThen];exact h
structure GlAt (w : World) (o1 o2 o3 : Obj) (mb : Nat) (L : List Tm) (its : List It) (A : Option Addr) (c base k : Nat) (Z : World) : Prop where
 box : Box3 w o1 o2 o3 Z
 cell : Z.heap[mb + 1]? = some (qk7 mb 0 (.slice none 0 0) (.slice none 0 0))
 set : qdg Z mb k ((L.take k).map Tm.name)
 row : RowT Z base (fun _ => False) (.slice A L.length c) its
 is : its.map (·.1) = L
section
variable {w Z Z' : World} {o1 o2 o3 : Obj} {mb : Nat} {L : List Tm} {its : List It} {A : Option Addr} {c base k : Nat}
theorem GlAt.go (h : GlAt w o1 o2 o3 mb L its A c base k Z) (hb : Below Z.heap.size Z Z') : GlAt w o1 o2 o3 mb L its A c base k Z' :=
 ⟨h.box.go hb, (hb.block _ (Array.getElem?_eq_some_iff.1 h.cell).1).trans h.cell, h.set.keep (hb.block _ h.set.lt), h.row.below hb, h.is⟩
theorem GlAt.turn (h : GlAt w o1 o2 o3 mb L its A c base k Z) (hw : w.heap.size + 3 ≤ mb) (hbase : mb + 1 < base) (hk : k < L.length) (hset : qdg Z' mb (k + 1) (L[k].name :: (L.take k).map Tm.name)) (ht : Z.mapTurned Z' mb) : GlAt w o1 o2 o3 mb L its A c base (k + 1) Z' := by
 have hs := ht.grown.size;have hk2 : ∀ j, j < Z.heap.size → j ≠ mb → Z'.heap[j]? = Z.heap[j]? := fun j hj hne => ht.grown.block j hj (fun e => by injection e with e; exact hne e);have hl := h.box.lt;refine ⟨h.box.keep (fun j h1 h2 => hk2 j (by omega) (by omega)) (h.box.bel.grown ht.grown (by omega) (fun j e => by injection e with e; omega)), (hk2 _ (Array.getElem?_eq_some_iff.1 h.cell).1 (by omega)).trans h.cell, hset.congr fun s => ?_, qb7 h.row hs (fun j e => hk2 j (h.row.lt j e).2 (by have := (h.row.lt j e).1; omega)) (fun b hb => False.elim hb), h.is⟩;rw [List.take_succ_eq_append_getElem hk, List.map_append, List.mem_cons, List.mem_append];simp only [List.map_cons, List.map_nil, List.mem_singleton];exact or_comm
end
set_option maxHeartbeats 4000000 in
theorem qcf (t u : Tm) (T U : Option Addr) (ct cu : Nat) (w0 w : World) (M : Nat) (HI : qbj M w0) (h0 : Below w0.heap.size w0 w) (hM : M ≤ 1000000) (hMb : qax t u = 0 → ((qg9 t u).length + 1) * t.size < M) (ht : t.size ≤ 1000000) (hu : u.size ≤ 1000000)
  (hrt : RepT w w.heap.size t T ct) (hru : RepT w w.heap.size u U cu) :
  Calls Tryz.prog 25 #[t.val T ct, u.val U cu] w (Genl (genR t u) w) := by
 have mixed : Tryz.prog.follows .mixedOrders = true := by kernel_rfl
 have hmm := @run_makeMap Tryz.prog;obtain ⟨V, hV⟩ : ∃ V, V = ((w.alloc (boxT t T ct)).alloc (boxT u U cu)).alloc (.cells #[.int .i64 0, .string ⟨#[]⟩, .int .i64 0, .slice none 0 0] 24) := ⟨_, rfl⟩;have h3 : Box3 w (boxT t T ct) (boxT u U cu) (.cells #[.int .i64 0, .string ⟨#[]⟩, .int .i64 0, .slice none 0 0] 24 (0, 0)) V := by
  rw [hV]; exact Box3.new w _ _ _ (fun W => heap_alloc_new _ _) (fun W => heap_alloc_new _ _) (fun W => heap_alloc_new _ _)
 have hup : ∀ (Z : World) (y : Tm) (Y : Option Addr) (cy : Nat), Below w.heap.size w Z → RepT w w.heap.size y Y cy → RepT Z Z.heap.size y Y cy := fun Z y Y cy hZ h => h.go hZ hZ.size;have VV := qej t u T U ct cu V ht hu (hup V _ _ _ h3.bel hrt) (hup V _ _ _ h3.bel hru);obtain ⟨v2, hv2⟩ : ∃ v, v = qax t u := ⟨_, rfl⟩;obtain ⟨r, hr⟩ : ∃ r, r = genR t u := ⟨_, rfl⟩;rw [← hr];unfold genR at hr;rw [← hv2] at VV hr hMb;have HR := Lib.hid hr; clear hr;have HV2 := Lib.hid hv2; clear hv2;have H3 := Lib.hid h3; clear h3;have HUP := Lib.hid hup; clear hup;have HRT := Lib.hid hrt; clear hrt;have HRU := Lib.hid hru; clear hru;have HII := Lib.hid HI; clear HI;have HW0 := Lib.hid h0; clear h0;have HMB := Lib.hid hMb; clear hMb;simp only [boxT] at hV;have HV := Lib.hid hV; clear hV;obtain ⟨a0, a1, a2, a3, -⟩ := qaq t (H3.out.one);obtain ⟨b0, b1, b2, b3, -⟩ := qaq u (H3.out.two)
 simp only [Tm.val] at VV ⊢;have VV := Lib.hid VV;go_enter Tryz.func25, Tryz.ntmps25
 go_wp2_with fail
 rw [← HV.out];go_wp2_with fail
 refine VV.out.mono ?_; clear VV a0 a1 a2 a3 b0 b1 b2 b3;rintro e w1 ⟨rfl, hl1⟩;have H4 := Lib.hid (H3.out.go hl1.below); clear H3 hl1;obtain ⟨z0, z1, z2, z3, zf⟩ := qae H4.out.three;rcases eq_facts v2 0 with ⟨e0, e1, n1⟩ | ⟨e0, e1, n1⟩
 rotate_left
 ·have hr := HR.out.trans (if_pos e0);have HR2 := Lib.hid hr; clear HR hr;go_wp2_with fail
  refine bodyPost_ret (v := .tuple #[.agg #[.int .i64 0, .string ⟨#[]⟩, .int .i64 0, .slice none 0 0], .int .i64 v2]) ?_ rfl ?_
  ·simp [results, Tryz.results25, go_sem, z0, z1, z2, z3]
  rw [HR2.out];exact qk5 (r := (.mk 0 ⟨#[]⟩ 0 [], v2)) (A := none) (c := 0) H4.out.bel (by omega) (qjk _ _ _ (Nat.zero_le _))
 have hvt := qhb (HV2.out.symm.trans e0);have hMB := HMB.out e0;have hr := HR.out.trans (if_neg (by simpa using e0));have HR2 := Lib.hid hr; clear HR hr HMB;clear e0;have hlt4 := H4.out.lt;obtain ⟨W1, hW1⟩ : ∃ W1, W1 = w1.alloc (.map #[] 0) := ⟨_, rfl⟩;have bW1 : Below w1.heap.size w1 W1 := by rw [hW1]; exact qaf (Nat.le_refl _) _
 have sW1 : W1.heap.size = w1.heap.size + 1 := by rw [hW1]; simp
 have iW1 : qdg W1 w1.heap.size 0 [] := by rw [hW1]; exact qdg.made w1
 obtain ⟨W2, hW2⟩ : ∃ W2, W2 = W1.alloc (.cells #[.map (some w1.heap.size), .int .i64 0, .slice none 0 0, .slice none 0 0] 73) := ⟨_, rfl⟩;have bW2 : Below W1.heap.size W1 W2 := by rw [hW2]; exact qaf (Nat.le_refl _) _
 have sW2 : W2.heap.size = w1.heap.size + 1 + 1 := by rw [hW2]; simp [sW1]
 have cW2 : W2.heap[w1.heap.size + 1]? = some (qk7 w1.heap.size 0 (.slice none 0 0) (.slice none 0 0)) := by rw [hW2, ← sW1]; exact heap_alloc_new _ _
 have b12 : Below w1.heap.size w1 W2 := qad bW1 bW2 bW1.size;have HWE : Hid (W2 = (w1.alloc (.map #[] 0)).alloc (.cells #[.map (some w1.heap.size), .int .i64 0, .slice none 0 0, .slice none 0 0] 73)) := by rw [hW2, hW1]; exact rfl
 have H5 := Lib.hid (H4.out.go b12); clear H4;have HST := Lib.hid (iW1.keep (bW2.block _ (by omega))); clear iW1;have HCL := Lib.hid cW2; clear cW2 hW1 hW2 bW1 bW2 b12 sW1;clear z0 z1 z2 z3 zf;go_wp2_with fail
 rw [← HWE.out];obtain ⟨mb, hmb⟩ : ∃ mb, mb = w1.heap.size := ⟨_, rfl⟩;rw [← hmb] at hlt4 sW2 HST HCL ⊢;clear HWE hmb;refine qam (fun _ => True) (fun Y => Below W2.drew.heap.size W2.drew Y) [] (.held 0 (.held 2 (.held 7 (.op 1 (.op 3 (.op 4 (.op 5 (.op 6 .nil)))))))) mixed (by kernel_rfl) ?_;have H6 := Lib.hid (H5.out.go (Z' := W2.drew) (Below.refl _ _).drew); clear H5;have HST2 : Hid (qdg W2.drew mb 0 []) := HST.out.keep rfl;have HCL2 : Hid (W2.drew.heap[mb + 1]? = some (qk7 mb 0 (.slice none 0 0) (.slice none 0 0))) := HCL.out;have sD : W2.drew.heap.size = mb + 1 + 1 := sW2;clear HST HCL sW2;generalize W2.drew = D at *;obtain ⟨a0, a1, a2, a3, -⟩ := qaq t (H6.out.one);obtain ⟨b0, b1, b2, b3, -⟩ := qaq u (H6.out.two)
 refine qaa (v := .agg #[.int .i64 t.kind, .string t.name, .int .i64 t.sort, .slice T t.kids.length ct]) rfl rfl rfl (fun _ _ _ h => h) trivial (Below.refl _ _) (fun Y _ hY => by
  have z0 := (hY.cell (p := ⟨w.heap.size, 0, none⟩) (by show w.heap.size < _; omega)).trans a0;have z1 := (hY.cell (p := ⟨w.heap.size, 1, none⟩) (by show w.heap.size < _; omega)).trans a1;have z2 := (hY.cell (p := ⟨w.heap.size, 2, none⟩) (by show w.heap.size < _; omega)).trans a2;have z3 := (hY.cell (p := ⟨w.heap.size, 3, none⟩) (by show w.heap.size < _; omega)).trans a3
  (try simp only [Act.put]); go_simp) ?_
 refine qaa (v := .agg #[.int .i64 u.kind, .string u.name, .int .i64 u.sort, .slice U u.kids.length cu]) rfl rfl rfl (fun _ _ _ h => h) trivial (Below.refl _ _) (fun Y _ hY => by
  have z0 := (hY.cell (p := ⟨w.heap.size + 1, 0, none⟩) (by show w.heap.size + 1 < _; omega)).trans b0;have z1 := (hY.cell (p := ⟨w.heap.size + 1, 1, none⟩) (by show w.heap.size + 1 < _; omega)).trans b1;have z2 := (hY.cell (p := ⟨w.heap.size + 1, 2, none⟩) (by show w.heap.size + 1 < _; omega)).trans b2;have z3 := (hY.cell (p := ⟨w.heap.size + 1, 3, none⟩) (by show w.heap.size + 1 < _; omega)).trans b3
  (try simp only [Act.put]); go_simp) ?_
 refine qaa (v := .int .i64 0) rfl rfl rfl (fun _ _ _ h => h) trivial (Below.refl _ _) (fun Y _ hY => by
  (try simp only [Act.put]); go_simp) ?_
 simp only [Act.put, List.setIfInBounds_toArray];clear a0 a1 a2 a3 b0 b1 b2 b3;have V1 := qgv t T ct D ht (HUP.out D _ _ _ H6.out.bel HRT.out);simp only [Tm.val] at V1;have V1 := Lib.hid V1;refine qac rfl rfl (fun K hK => ?_);go_wp2_with fail
 refine V1.out.mono ?_; clear V1;rintro e w5 ⟨v5, its5, rfl, hrow5, hb5, his5⟩;refine hK _ _ ⟨⟨fun _ => trivial, hb5⟩, ?_⟩;clear hK K;have H7 := Lib.hid (H6.out.go hb5);have V2 := qgv u U cu w5 hu (HUP.out w5 _ _ _ H7.out.bel HRU.out);simp only [Tm.val] at V2;have V2 := Lib.hid V2;refine qac rfl rfl (fun K hK => ?_);go_wp2_with fail
 refine V2.out.mono ?_; clear V2;rintro e w6 ⟨v6, its6, rfl, hrow6, hb6, his6⟩;have hb56 := qad hb5 hb6 hb5.size;refine hK _ _ ⟨⟨fun _ => trivial, hb56⟩, ?_⟩;clear hK K;obtain ⟨A5, c5, hv5, hS5⟩ := (hrow5.below hb6).toS (P := fun b => b < w6.heap.size) (fun b _ h => h) (fun b _ h => h);obtain ⟨A6, c6, hv6, hS6⟩ := hrow6.toS (P := fun b => b < w6.heap.size) (fun b _ h => h) (fun b _ h => h);rw [his5] at hS5;rw [his6] at hS6;subst hv5 hv6;have hl5 : its5.length = (varsOf t).length := by rw [← List.length_map (f := (·.1)), his5]; rfl
 have hl6 : its6.length = (varsOf u).length := by rw [← List.length_map (f := (·.1)), his6]; rfl
 have hvl5 := qbu t;have hvl6 := qbu u;have ht4 := qai hvt.1;have hu4 := qai hvt.2;obtain ⟨W7, hW7⟩ : ∃ W7, W7 = w6.alloc (.cells #[.slice A5 its5.length c5, .slice A6 its6.length c6] 22) := ⟨_, rfl⟩;have bW7 : Below w6.heap.size w6 W7 := by rw [hW7]; exact qaf (Nat.le_refl _) _
 have cW7 : W7.heap[w6.heap.size]? = some (.cells #[.slice A5 (varsOf t).length c5, .slice A6 (varsOf u).length c6] 22 (0, 0)) := by rw [hW7, ← hl5, ← hl6]; exact heap_alloc_new _ _
 have sW7 : W7.heap.size = w6.heap.size + 1 := by rw [hW7]; simp
 have CC := qom (varsOf t) (varsOf u) A5 A6 c5 c6 w6.heap.size W7 (by omega) (by omega) cW7 (RepS.mono (fun b (h : b < _) => by omega) (fun p hp => bW7.cell hp) hS5) (RepS.mono (fun b (h : b < _) => by omega) (fun p hp => bW7.cell hp) hS6);obtain ⟨L, hL⟩ : ∃ L, L = qg9 t u := ⟨_, rfl⟩;have hLe : varsOf t ++ varsOf u = L := hL.symm;rw [hLe] at CC;have CC := Lib.hid CC;have HL := Lib.hid hL; clear hL hLe;have HW7 := Lib.hid hW7; clear hW7;have hbD7 := qad hb56 bW7 hb56.size;have H8 := Lib.hid (H6.out.go hbD7); clear H6 H7;clear cW7 hS5 hS6 hl5 hl6 his5 his6 hrow5 hrow6 bW7;refine qac rfl rfl (fun K hK => ?_);go_wp2_with fail
 rw [← HW7.out];refine ⟨⟨fun _ => trivial, hbD7⟩, ?_⟩;clear HW7;refine qac rfl rfl (fun K hK => ?_);go_wp2_with fail
 refine CC.out.mono ?_; clear CC;rintro e w8 ⟨A8, c8, its8, rfl, hrow8, his8, hb8⟩;have hbD8 := qad hbD7 hb8 hbD7.size;refine hK _ _ ⟨⟨fun _ => trivial, hbD8⟩, ?_⟩;clear hK K;refine qac rfl rfl (fun K hK => ?_);go_wp2_with fail
 refine ⟨⟨fun _ => trivial, hbD8⟩, qao ?_⟩;have hleaf : ∀ x ∈ L, x.kids = [] ∧ qbm x := fun x hx => by
  rw [HL.out] at hx;rcases List.mem_append.1 hx with h | h
  ·exact qcq hvt.1 x h
  ·exact qcq hvt.2 x h
 have hLl : L.length ≤ 800 := by rw [HL.out]; unfold qg9; rw [List.length_append]; omega
 rw [← HL.out] at hMB;have hrowL := qe5 hrow8 (fun x hx => (hleaf x.1 (by rw [← his8]; exact List.mem_map_of_mem hx)).1);have hs7 : mb + 1 < W7.heap.size := by have := hbD7.size; omega
 have hGL : GlAt w (boxT t T ct) (boxT u U cu) (.cells #[.int .i64 0, .string ⟨#[]⟩, .int .i64 0, .slice none 0 0] 24 (0, 0)) mb L its8 A8 c8 W7.heap.size 0 w8 :=
  ⟨H8.out.go hb8, (hbD8.block _ (by omega)).trans HCL2.out, HST2.out.keep (hbD8.block _ (by omega)), hrowL, his8⟩
 obtain ⟨base, hbase⟩ : ∃ base, base = W7.heap.size := ⟨_, rfl⟩;rw [← hbase] at hGL hs7;have HGL := Lib.hid hGL;have HLF := Lib.hid hleaf; clear hleaf;have HMB := Lib.hid hMB;have HVT := Lib.hid hvt;clear hGL hMB hvt hrowL hrow8 his8 hb8 hbD8 hbD7 hb56 hb6 hb5 H8 HST2 HCL2 hbase sW7 sD hvl5 hvl6;go_wp2_with fail
 go_loopw [27] (fun i wr => ∃ k : Nat, k ≤ L.length ∧ i = .int .i64 k ∧ Hid (GlAt w (boxT t T ct) (boxT u U cu) (.cells #[.int .i64 0, .string ⟨#[]⟩, .int .i64 0, .slice none 0 0] 24 (0, 0)) mb L its8 A8 c8 base k wr)) (fun i _ => L.length - (intOf i).toNat)
 case atStart => exact ⟨0, Nat.zero_le _, rfl, HGL.out⟩
 case round =>
  clear HGL;obtain ⟨k, hk, rfl, HG⟩ := hrel;have i1 : (0 : Int) ≤ (k : Int) := Int.natCast_nonneg _;by_cases hlt : k < L.length
  ·have i2 : (k : Int) < (L.length : Int) := by omega
   have hil : its8.length = L.length := by rw [← HG.out.is, List.length_map]
   obtain ⟨gA, rfl⟩ : ∃ gA, A8 = some ⟨gA, 0, none⟩ := by
    rcases HG.out.row.own.2 with ⟨h, h2⟩ | ⟨vb, cap, cur, h, -⟩
    ·omega
    ·injection h with h; exact ⟨vb, h⟩
   obtain ⟨m0, m1, m2, m3, -⟩ := HG.out.row.slot hil.symm k (by omega);have hx1 : (its8[k]'(by omega)).1 = L[k] := by
    have h := congrArg (·[k]?) HG.out.is;simpa [List.getElem?_eq_getElem (show k < its8.length by omega), List.getElem?_eq_getElem hlt] using h
   obtain ⟨hxk, hxn, -, -⟩ := HLF.out L[k] (List.getElem_mem hlt);obtain ⟨x, hx⟩ : ∃ x, x = its8[k]'(by omega) := ⟨_, rfl⟩;rw [← hx] at m0 m1 m2 m3 hx1;obtain ⟨y, Ay, cy⟩ := x;dsimp only at m0 m1 m2 m3 hx1;rw [← hx1] at hxn;obtain ⟨X, hX⟩ : ∃ X, X = wr.alloc (.cells #[.int .i64 y.kind, .string y.name, .int .i64 y.sort, .slice Ay y.kids.length cy] 24) := ⟨_, rfl⟩;have hbX : Below wr.heap.size wr X := by rw [hX]; exact qaf (Nat.le_refl _) _
   have hX2 := HG.out.go hbX;have hux : X.heap[wr.heap.size]? = some (.cells #[.int .i64 y.kind, .string y.name, .int .i64 y.sort, .slice Ay y.kids.length cy] 24 (0, 0)) := by rw [hX]; exact heap_alloc_new _ _
   have hD2 := hX2.go (Z' := X.drew) (Below.refl _ _).drew;have hXd : Hid (X.drew.heap[wr.heap.size]? = some (.cells #[.int .i64 y.kind, .string y.name, .int .i64 y.sort, .slice Ay y.kids.length cy] 24 (0, 0))) := hux;have HX := Lib.hid hX;have HX1 := Lib.hid hx1;have HGX := Lib.hid hD2;clear hx hX2 hbX hX hux hx1 hD2 hil;go_wp2_with fail
   rw [← HX.out];refine qam (fun Y => Below X.drew.heap.size X.drew Y) (fun _ => True) [6] (.held 0 (.held 1 (.held 2 (.held 3 (.held 4 (.held 5 (.op 6 .nil))))))) mixed (by kernel_rfl) ?_;clear HX;generalize X.drew = D at *;have hlw := HGX.out.box.lt;have hmD := HGX.out.set.lt;have hwD := (Array.getElem?_eq_some_iff.1 hXd.out).1;have hcD := (Array.getElem?_eq_some_iff.1 HGX.out.cell).1;obtain ⟨c0, -, -, -, -⟩ := qae (show D.heap[mb + 1]? = some (.cells #[.map (some mb), .int .i64 ((0 : Nat) : Int), .slice none 0 0, .slice none 0 0] 73 (0, 0)) from HGX.out.cell);obtain ⟨-, d1, -, -, -⟩ := qae hXd.out;refine qaa (v := .pointer (some ⟨mb + 1, 0, none⟩)) rfl rfl rfl (fun _ _ _ h => h) (Below.refl _ _) trivial (fun Y hY _ => by (try simp only [Act.put]); go_simp) ?_
   refine qaa (v := .pointer (some ⟨mb + 1, 0, none⟩)) rfl rfl rfl (fun _ _ _ h => h) (Below.refl _ _) trivial (fun Y hY _ => by (try simp only [Act.put]); go_simp) ?_;refine qaa (v := .pointer (some ⟨mb + 1, 0, none⟩)) rfl rfl rfl (fun _ _ _ h => h) (Below.refl _ _) trivial (fun Y hY _ => by (try simp only [Act.put]); go_simp) ?_;refine qaa (v := .map (some mb)) rfl rfl rfl (fun _ _ _ h => h) (Below.refl _ _) trivial (fun Y hY _ => by
    have z0 := (hY.cell (p := ⟨mb + 1, 0, none⟩) (by show mb + 1 < _; omega)).trans c0
    (try simp only [Act.put]); go_simp) ?_
   refine qaa (v := .pointer (some ⟨wr.heap.size, 1, none⟩)) rfl rfl rfl (fun _ _ _ h => h) (Below.refl _ _) trivial (fun Y hY _ => by (try simp only [Act.put]); go_simp) ?_;refine qaa (v := .string y.name) rfl rfl rfl (fun _ _ _ h => h) (Below.refl _ _) trivial (fun Y hY _ => by
    have z0 := (hY.cell (p := ⟨wr.heap.size, 1, none⟩) (by show wr.heap.size < _; omega)).trans d1
    (try simp only [Act.put]); go_simp) ?_
   simp only [Act.put, List.setIfInBounds_toArray];obtain ⟨N3, hrun3, hset3, hturn3⟩ := HGX.out.set.store (by unfold maxLen; omega) (s := y.name) hxn;rw [HX1.out] at hset3;have HG3 := Lib.hid (HGX.out.turn (by omega) hs7 hlt hset3 hturn3);clear c0 d1 hset3 hturn3 m0 m1 m2 m3;refine qac rfl rfl (fun K hK => ?_);refine qj9 (by rfl) 71 (.tmp 34) (.tmp 36) (.const (.bool true)) (by rfl) (by rfl) (by rfl) (by rfl) hrun3 ?_;refine hK _ _ ⟨⟨fun h => absurd h (by decide), trivial⟩, qao ?_⟩;clear hK K;go_wp2_with fail
   go_roundw
   case rel => exact ⟨k + 1, by omega, by go_num, HG3.out⟩
   case measure => simp [intOf]; omega
  ·obtain rfl : k = L.length := by omega
   have hset := HG.out.set;rw [List.take_length] at hset;have hbx := HG.out.box;have hlw := hbx.lt;have hgw := (Array.getElem?_eq_some_iff.1 HG.out.cell).1;have hgen : GenAt (mb + 1) mb L.length w.heap.size (L.map Tm.name) gs0 none 0 none 0 [] [] wr :=
    ⟨HG.out.cell, hset, RowG.nil _ _ _ _, RowT.nil _ _ _, rfl, rfl, by simp, fun b e => by cases e⟩
   have hws := HW0.out.size;have OF := of_any (mb + 1) mb L.length w.heap.size (L.map Tm.name) w0 M HII.out (by omega) (Nat.lt_succ_self _) (by omega) hM t.size t u T U ct cu gs0 none 0 none 0 [] [] wr (Nat.le_refl _) HVT.out.1 HVT.out.2 (gs0_ok _)
    (by show ((L.map Tm.name).length + 1) * (0 + t.size) < M; rw [List.length_map, Nat.zero_add]; exact HMB.out) (by show 0 + t.size ≤ _; omega) (fun p hp => by cases hp) hgen (HW0.out.trans (hbx.bel.mono hws)) (RepP.mono (fun _ h => h) (fun p (hp : p.block < w.heap.size) => hbx.bel.cell hp) _ _ _ HRT.out) (RepP.mono (fun _ h => h) (fun p (hp : p.block < w.heap.size) => hbx.bel.cell hp) _ _ _ HRU.out)
   have hge : (t.gen (L.map Tm.name) u gs0).1 = genE t u := by rw [HL.out]; exact qoi t u
   obtain ⟨q, hq⟩ : ∃ q, q = t.gen (L.map Tm.name) u gs0 := ⟨_, rfl⟩;rw [← hq] at OF hge;obtain ⟨q1, q2⟩ := q;change q1 = genE t u at hge;rw [← hge] at HR2;simp only [Tm.val] at OF;have OF := Lib.hid OF;have HGE := Lib.hid hge;clear hq hge hgen;obtain ⟨a0, a1, a2, a3, -⟩ := qaq t (hbx.one);obtain ⟨b0, b1, b2, b3, -⟩ := qaq u (hbx.two);have HBX := Lib.hid hbx; clear hbx hset;go_wp2_with fail
   refine OF.out.mono ?_; clear OF a0 a1 a2 a3 b0 b1 b2 b3;rintro e w9 ⟨A9, c9, PA', Pc', VA', Vc', its', vts', rfl, hof⟩;have h39 := (hof.old (w.heap.size + 1 + 1) (by omega) (by omega) (fun e => by cases e) (fun e => by cases e)).trans HBX.out.three;obtain ⟨f0, f1, f2, f3, ff⟩ := qae h39;have hs9 := hof.size;have hb9 : Below w.heap.size w w9 := HBX.out.bel.trans (hof.bel.mono (by omega));have hr9 : RepP w9 (fun b => b < w9.heap.size ∧ b ≠ w.heap.size + 1 + 1) q1 A9 c9 := RepP.mono (fun b h => by
    rcases h with h | ⟨h1, h2, -⟩
    ·exact ⟨by omega, by omega⟩
    ·exact ⟨h2, by omega⟩) (fun _ _ => rfl) _ _ _ hof.rep
   have HB9 := Lib.hid hb9; clear hb9 hof;have HR9 := Lib.hid hr9; clear hr9;simp only [Tm.val];go_wp2_with fail
   refine bodyPost_ret (v := .tuple #[.agg #[.int .i64 q1.kind, .string q1.name, .int .i64 q1.sort, .slice A9 q1.kids.length c9], .int .i64 0]) ?_ rfl ?_
   ·simp [results, Tryz.results25, go_sem, f0, f1, f2, f3]
   rw [HR2.out];exact qk5 (r := (q1, 0)) HB9.out (by omega) HR9.out
end Go.Proofs.YtpjmdilpldaapaaGreatDoor
namespace Go.Proofs.YtpjmdilpldaapaaGreatDoor
open Go.RowKit Go.Sort
theorem four_set (b : Nat) {Z : World} {x : Tm} {X : Option Addr} {cx : Nat} {p q r s : Value} (h : Z.heap[b]? = some (.cells #[p, q, r, s] 24 (0, 0))) :
  ((((Z.setCell ⟨b, 0, none⟩ (.int .i64 x.kind)).setCell ⟨b, 1, none⟩ (.string x.name)).setCell ⟨b, 2, none⟩ (.int .i64 x.sort)).setCell ⟨b, 3, none⟩ (.slice X x.kids.length cx)).heap[b]? = some (boxT x X cx) := qdd h
theorem four_oth (b k : Nat) {Z : World} {x : Tm} {X : Option Addr} {cx : Nat} (h : k ≠ b) :
  ((((Z.setCell ⟨b, 0, none⟩ (.int .i64 x.kind)).setCell ⟨b, 1, none⟩ (.string x.name)).setCell ⟨b, 2, none⟩ (.int .i64 x.sort)).setCell ⟨b, 3, none⟩ (.slice X x.kids.length cx)).heap[k]? = Z.heap[k]? := by
 iterate 4 rw [Below.heap_setCell _ _ _ _ h]
theorem four_bel (b B : Nat) {w Z : World} {x : Tm} {X : Option Addr} {cx : Nat} (h : Below B w Z) (hb : B ≤ b) :
  Below B w ((((Z.setCell ⟨b, 0, none⟩ (.int .i64 x.kind)).setCell ⟨b, 1, none⟩ (.string x.name)).setCell ⟨b, 2, none⟩ (.int .i64 x.sort)).setCell ⟨b, 3, none⟩ (.slice X x.kids.length cx)) := by
 iterate 4 refine Below.setCell ?_ (by exact hb) _
 exact h
theorem Four.swap {w Z : World} {x y : Tm} {X Y : Option Addr} {cx cy : Nat} {o3 o4 : Obj} (h : Four w (boxT x X cx) (boxT y Y cy) o3 o4 Z) :
  Four w (boxT y Y cy) (boxT x X cx) o3 o4 ((((((((Z.setCell ⟨w.heap.size, 0, none⟩ (.int .i64 y.kind)).setCell ⟨w.heap.size, 1, none⟩ (.string y.name)).setCell ⟨w.heap.size, 2, none⟩ (.int .i64 y.sort)).setCell ⟨w.heap.size, 3, none⟩ (.slice Y y.kids.length cy)).setCell ⟨w.heap.size + 1, 0, none⟩ (.int .i64 x.kind)).setCell ⟨w.heap.size + 1, 1, none⟩ (.string x.name)).setCell ⟨w.heap.size + 1, 2, none⟩ (.int .i64 x.sort)).setCell ⟨w.heap.size + 1, 3, none⟩ (.slice X x.kids.length cx)) :=
 ⟨(four_oth _ _ (by omega)).trans (four_set _ h.one), four_set _ ((four_oth _ _ (by omega)).trans h.two), (four_oth _ _ (by omega)).trans ((four_oth _ _ (by omega)).trans h.three), (four_oth _ _ (by omega)).trans ((four_oth _ _ (by omega)).trans h.four), four_bel _ _ (four_bel _ _ h.bel (Nat.le_refl _)) (by omega)⟩
set_option maxHeartbeats 2000000 in
theorem qot (a b : Bd) (A A' B B' : Option Addr) (c c' d d' : Nat) (w : World) (ha : a.1.size ≤ 1000000) (hb : b.1.size ≤ 1000000) (hra : RepT w w.heap.size a.1 A c) (hrb : RepT w w.heap.size b.1 B d) :
  Calls Tryz.prog 88 #[bval a A c A' c', bval b B d B' d'] w fun e w' => e = .returned (.int .i64 (a.1.cmp b.1)) ∧ Lay w.heap.size w w' := by
 obtain ⟨V, hV⟩ : ∃ V, V = (w.alloc (.cells (qe0 a A c A' c') 48)).alloc (.cells (qe0 b B d B' d') 48) := ⟨_, rfl⟩;have hl : Lay w.heap.size w V := by rw [hV]; exact ((Lay.refl _ _).alloc (Nat.le_refl _) _).alloc (by simp) _
 have CM : Hid (∀ Z, Lay w.heap.size w Z → Calls Tryz.prog 75 #[a.1.val A c, b.1.val B d] Z fun e w' => e = .returned (.int .i64 (a.1.cmp b.1)) ∧ Lay Z.heap.size Z w') := Lib.hid fun Z h => qde 1000000 a.1 b.1 A B c d Z ha (by omega) hb (hra.go h.below h.size) (hrb.go h.below h.size);have HL := Lib.hid hl; clear hl;simp only [qe0] at hV;have HV := Lib.hid hV; clear hV;have CON := Lib.hid (CM.out V HL.out); clear CM;simp only [Tm.val] at CON;simp only [bval, qe0];go_enter Tryz.func88, Tryz.ntmps88
 go_wp2_with fail
 rw [← HV.out];refine CON.out.mono ?_;rintro e w1 ⟨rfl, hl1⟩;have HL1 := Lib.hid (HL.out.trans (hl1.mono HL.out.size)); clear hl1;go_wp2_with fail
 go_ret
 exact ⟨rfl, HL1.out⟩
theorem usort_any (w : World) (base g cap n : Nat) (F : Nat → Prop) (its : List IB) (hn : n = its.length) (hpos : 0 < n) (hn2 : n ≤ 10000000) (hrow : RowB w base F (.slice (some ⟨g, 0, none⟩) n cap) its) (hsz : ∀ x ∈ its, x.1.1.size ≤ 1000000) :
  Calls Tryz.prog 87 #[.slice (some ⟨g, 0, none⟩) n cap, .func (.func 88) #[] #[]] w (SortedIB w base g n cap F its) := by
 subst hn;have hgood : ∀ x ∈ its, GoodIB w g x := fun x hx => ⟨RepP.mono (fun b ⟨_, h2, h3⟩ => ⟨h2, fun e => h3 (by rw [e]; rfl)⟩) (fun _ _ => rfl) _ _ _ (hrow.reps x hx).1, hsz x hx⟩;obtain ⟨x0, hx0⟩ : ∃ x, x ∈ its := ⟨its[0], List.getElem_mem hpos⟩
 letI : Inhabited (GIB w g) := ⟨⟨x0, hgood x0 hx0⟩⟩
 obtain ⟨d, hd⟩ : ∃ d : Array (GIB w g), d.toList.map (·.1) = its := ⟨(its.attach.map fun x => ⟨x.1, hgood x.1 x.2⟩).toArray, by simp only [List.map_map, Function.comp_def]; exact List.attach_map_subtype_val its⟩;have hds : d.size = its.length := by rw [← hd]; simp
 rcases hrow.own.2 with ⟨hv, _⟩ | ⟨g', cap', cur, hv, hbase, hb, hnc, hcm, hcs, ht⟩
 ·cases hv
 injection hv with h1 h2 h3;injection h1 with h1;injection h1 with h1;subst h1 h3;have hgl : g < w.heap.size := (Array.getElem?_eq_some_iff.1 hb).1;have hflat : (flatK (qdh w g) 8 d).toList = bCells its := by rw [qm8, hd]
 have hfs : (flatK (qdh w g) 8 d).size = its.length * 8 := by simp [hds]
 have hH : HoldsK (qdh w g) 8 w g 0 d := by
  intro j hj;rw [size_flatK] at hj;refine ⟨?_, by simp [World.frozen?, hb]⟩;have h1 : (cur.toList.take (its.length * 8))[j]? = (bCells its)[j]? := by rw [ht]
  rw [List.getElem?_take_of_lt (by omega), Array.getElem?_toList] at h1;simp only [World.cell?, hb, Nat.zero_add, Option.isSome_none, Bool.false_eq_true, if_false];rw [h1, ← hflat, Array.getElem?_toList, Array.getElem?_eq_getElem (by simpa using hj), getElem!_pos _ j (by simpa using hj)];rfl
 have hcmp : CmpLays Tryz.prog 88 #[] (qdh w g) 8 (qmc w g) g 0 d.size w := by
  intro m os dk hdk x y;have hW : ∀ p : Addr, p.block < w.heap.size → p.block ≠ g → (sortWorldK (qdh w g) 8 w g 0 m dk os).cell? p = w.cell? p := fun p hp hne => by
   unfold sortWorldK;rw [cell?_grow _ _ _ (by rw [size_putRowK]; exact hp), cell?_putRowK_other _ _ _ _ _ _ _ hne]; rfl
  have hS := size_sortWorldK_c (qdh w g) 8 w g 0 m dk os;have hr : ∀ z : GIB w g, RepT (sortWorldK (qdh w g) 8 w g 0 m dk os) (sortWorldK (qdh w g) 8 w g 0 m dk os).heap.size z.1.1.1 z.1.1.2.1 z.1.1.2.2 := fun z =>
   RepP.mono (fun b ⟨h1, _⟩ => by omega) (fun p ⟨h1, h2⟩ => hW p h1 h2) _ _ _ z.2.1
  refine (qot x.1.bd y.1.bd x.1.1.2.1 x.1.2.2.1 y.1.1.2.1 y.1.2.2.1 x.1.1.2.2 x.1.2.2.2 y.1.1.2.2 y.1.2.2.2 _ x.2.2 y.2.2 (hr x) (hr y)).mono ?_;rintro e w' ⟨he, hl⟩;exact ⟨he, hl.grow⟩
 have eg : ∀ args w, (callFunc 88 args).run Tryz.prog w = .ok (.enter 88 args) w := enters_of Tryz.func88 (by kernel_rfl) rfl;have hcon := AnyQ.slices_SortFunc Tryz.sortBind 8 Tryz.isAgg48 Tryz.sizeOf48 (qdh w g) (fun x => by unfold qdh; rw [qa6]; rfl) (fun x v hv => qdv [x.1] v hv) (qmc w g) swo_cmpIB 88 #[] g 0 cap d w eg hcmp hH hgl (by omega);rw [hds] at hcon;refine Calls.mono hcon ?_;rintro e w' ⟨he, d', m, os, hperm, hsort, rfl⟩;have hs' : d'.size = its.length := hperm.1.trans hds;have hlen' : (d'.toList.map (·.1)).length = its.length := by simpa using hs'
 refine ⟨he, d'.toList.map (·.1), ?_, ?_, ⟨?_, ?_⟩, qct _⟩
 ·have h := hperm.2.2;rw [← hds, show d'.extract 0 d.size = d' by rw [hds, ← hs']; simp, show d.extract 0 d.size = d by simp] at h;rw [← hd]; exact h.map _
 ·intro i j hij hj;have hj' : j < its.length := by rw [hlen'] at hj; exact hj
  have h := hsort i j (Nat.zero_le _) hij hj';unfold ltOf qmc at h;rw [decide_eq_false_iff_not] at h;rw [getElem!_pos d' j (by omega), getElem!_pos d' i (by omega)] at h;have hneg := Tm.cmp_neg d'[i].1.1.1 d'[j].1.1.1;simp only [List.getElem_map, Array.getElem_toList];omega
 ·have hf' : (flatK (qdh w g) 8 d').toList = bCells (d'.toList.map (·.1)) := qm8 d';have hfs' : (flatK (qdh w g) 8 d').size = its.length * 8 := by simp [hs']
  refine ⟨by rw [qa6], .inr ⟨g, cap, _, by rw [hlen'], hbase, qhw _ hb, by rw [hlen']; exact hnc, hcm, by simp [putCells, hcs], ?_⟩⟩;rw [hlen', ← hfs', qfe _ _ (by rw [hfs', hcs]; exact Nat.mul_le_mul_right _ hnc), hf']
 ·intro x hx;have hmem : x ∈ its := by
   have h := hperm.2.2;rw [← hds, show d'.extract 0 d.size = d' by rw [hds, ← hs']; simp, show d.extract 0 d.size = d by simp] at h;rw [← hd]; exact (h.map _).mem_iff.1 hx
  have hg := qct (w := w) (g := g) (n := m) (os := os) (flatK (qdh w g) 8 d');have key : ∀ (t : Tm) A c, RepP w (fun b => F b ∧ b < w.heap.size ∧ (Value.slice (some ⟨g, 0, none⟩) its.length cap).ownBlock ≠ some b) t A c → RepP (grow (putRow id (Sort.ahead w m) g 0 (flatK (qdh w g) 8 d')) os) (fun b => F b ∧ b < (grow (putRow id (Sort.ahead w m) g 0 (flatK (qdh w g) 8 d')) os).heap.size ∧ (Value.slice (some ⟨g, 0, none⟩) its.length cap).ownBlock ≠ some b) t A c := fun t A c hr => by
   refine RepP.mono ?_ ?_ _ _ _ hr
   ·rintro b ⟨h1, h2, h3⟩; exact ⟨h1, Nat.lt_of_lt_of_le h2 hg.size, h3⟩
   ·rintro p ⟨h1, h2, h3⟩;exact World.cell?_of_block (hg.block p.block h2 (fun e => h3 (by rw [show g = p.block from by injection e with e; exact e.symm]; rfl)))
  exact ⟨key _ _ _ (hrow.reps x hmem).1, key _ _ _ (hrow.reps x hmem).2⟩
theorem usort_row (w : World) (base : Nat) (F : Nat → Prop) (A : Option Addr) (cap n : Nat) (its : List IB) (hn : n = its.length) (hn2 : n ≤ 10000000) (hrow : RowB w base F (.slice A n cap) its) (hsz : ∀ x ∈ its, x.1.1.size ≤ 1000000) :
  Calls Tryz.prog 87 #[.slice A n cap, .func (.func 88) #[] #[]] w (fun e w' => e = .returned (.tuple #[]) ∧ ∃ its', its'.Perm its ∧ (its'.map IB.bd).Pairwise LeB ∧
   RowB w' base F (.slice A n cap) its' ∧ w.grownBy w' (Value.slice A n cap).ownBlock) := by
 by_cases h0 : its = []
 ·subst h0;subst hn;have hS := (AnyF.slices_SortFunc_none (P := Tryz.prog) Tryz.sortBind A cap (.func (.func 88) #[] #[]) w);refine hS.mono ?_;rintro e w' ⟨rfl, rfl⟩;exact ⟨rfl, [], List.Perm.refl _, List.Pairwise.nil, hrow, grown_lay (Lay.refl _ _) _⟩
 ·have hpos : 0 < its.length := List.length_pos_iff.2 h0;rcases hrow.own.2 with ⟨_, h⟩ | ⟨g, cap', cur, hv, _⟩
  ·omega
  injection hv with h1 h2 h3;subst h1;refine (usort_any w base g cap n F its hn (by omega) hn2 hrow hsz).mono ?_;rintro e w' ⟨rfl, its', hp, hs, hr, hg⟩;refine ⟨rfl, its', hp, ?_, hr, hg⟩;rw [List.pairwise_iff_getElem];intro i j hi hj hij;simp only [List.length_map] at hi hj;have := hs i j hij hj;simpa [LeB, IB.bd] using this
def AscU (v : Value) (base : Nat) (F : Nat → Prop) (bs : List Bd) (w : World) (e : Ending) (w' : World) : Prop :=
 e = .returned v ∧ ∃ its', its'.map IB.bd = qij bs ∧ RowB w' base F v its' ∧ w.grownBy w' v.ownBlock
set_option maxHeartbeats 2000000 in
theorem qj3 (w : World) (base : Nat) (F : Nat → Prop) (A : Option Addr) (cap n : Nat) (its : List IB) (hn : n = its.length) (hn2 : n ≤ 10000000) (hrow : RowB w base F (.slice A n cap) its) (hsz : ∀ x ∈ its, x.1.1.size ≤ 1000000) (hv : qco (its.map IB.bd)) :
  Calls Tryz.prog 62 #[.slice A n cap] w (AscU (.slice A n cap) base F (its.map IB.bd) w) := by
 subst hn;have SO := Lib.hid (usort_row w base F A cap its.length its rfl hn2 hrow hsz);go_enter Tryz.func62, Tryz.ntmps62
 go_wp2_with fail
 refine SO.out.mono ?_; clear SO;rintro e w5 ⟨rfl, its', hp, hs, hrow', hg⟩;have hbd := sorted_is (hp.map IB.bd) hs hv;have HRW := Lib.hid hrow'; clear hrow';have HG := Lib.hid hg; clear hg hs hp;have HBD := Lib.hid hbd; clear hbd;go_wp2_with fail
 go_ret
 exact ⟨rfl, its', HBD.out, HRW.out, HG.out⟩
theorem least_ex {p : Nat → Prop} : ∀ n, p n → ∃ n, p n ∧ ∀ m, p m → n ≤ m := by
 intro n
 induction n using Nat.strongRecOn with
 | _ n ih =>
  intro h;by_cases h2 : ∃ m, m < n ∧ p m
  ·obtain ⟨m, hm, hp⟩ := h2;exact ih m hm hp
  ·exact ⟨n, h, fun m hm => Classical.byContradiction fun e => h2 ⟨m, by omega, hm⟩⟩
theorem least_fun (p : World → Nat → Prop) : ∃ μ : World → Nat, ∀ w n, p w n → p w (μ w) ∧ μ w ≤ n := by
 refine ⟨fun w => Classical.epsilon fun n => p w n ∧ ∀ m, p w m → n ≤ m, fun w n h => ?_⟩;have := Classical.epsilon_spec (least_ex (p := p w) n h);exact ⟨this.1, this.2 n h⟩
theorem run_nil {n : Nat} {bs : List Bd} {r : Int × List Bd} (h : runU n [] bs = some r) : qk1 [] bs = true ∧ r = (0, bs) := by
 cases n with
 | zero => rw [runU] at h; cases h
 | succ n =>
  rw [runU] at h
  split at h
  ·rename_i hg; exact ⟨hg, (Option.some.inj h).symm⟩
  ·cases h
theorem run_cons {n : Nat} {p : Bd} {ps bs : List Bd} {r : Int × List Bd} (h : runU n (p :: ps) bs = some r) : qk1 (p :: ps) bs = true ∧
  (((qa8 p.1 p.2 ps bs).1 ≠ 0 ∧ r = ((qa8 p.1 p.2 ps bs).1, [])) ∨ ((qa8 p.1 p.2 ps bs).1 = 0 ∧ ∃ m, m < n ∧ runU m (qa8 p.1 p.2 ps bs).2.1 (qa8 p.1 p.2 ps bs).2.2 = some r)) := by
 cases n with
 | zero => rw [runU] at h; cases h
 | succ n =>
  rw [runU] at h
  split at h
  ·rename_i hg
   refine ⟨hg, ?_⟩
   split at h
   ·rename_i he; exact .inl ⟨he, (Option.some.inj h).symm⟩
   ·rename_i he; exact .inr ⟨by simpa using he, n, by omega, h⟩
  ·cases h
def qc2 (r : Int × List Bd) (w : World) (e : Ending) (w' : World) : Prop :=
 ∃ A c, e = .returned (.tuple #[.slice A (solvedU r).1.length c, .int .i64 r.1]) ∧ RepB w' (fun b => b < w'.heap.size) (solvedU r).1 A c ∧ Below w.heap.size w w'
theorem qis {w w' : World} {n : Int} (hn : n ≠ 0) (h : Below w.heap.size w w') : qc2 (n, []) w (.returned (.tuple #[.slice none 0 0, .int .i64 n])) w' := by
 have e : (solvedU (n, ([] : List Bd))).1 = [] := by simp [solvedU, hn]
 refine ⟨none, 0, by rw [e]; rfl, by rw [e]; exact ⟨Nat.le_refl _, by simp [maxLen], .inl rfl⟩, h⟩
set_option maxHeartbeats 2000000 in
theorem solve_any (n0 : Nat) (ps0 : List Bd) (r : Int × List Bd) (A : Option Addr) (c : Nat) (w : World) (hr : RepB w (fun b => b < w.heap.size) ps0 A c) (hrun : runU n0 ps0 [] = some r) :
  Calls Tryz.prog 38 #[.slice A ps0.length c] w (qc2 r w) := by
 have hVA : r.1 = 0 → qco r.2 := fun h => by
  obtain ⟨e, s⟩ := r;have h : e = 0 := h;subst h;exact (qhj hrun ⟨List.Pairwise.nil, by simp⟩).2.1
 obtain ⟨W1, hW1⟩ : ∃ W1, W1 = w.alloc (.cells #[.slice A ps0.length c, .slice none 0 0] 85) := ⟨_, rfl⟩;have hb1 : Below w.heap.size w W1 := by rw [hW1]; exact qaf (Nat.le_refl _) _
 have hs1 : w.heap.size < W1.heap.size := by rw [hW1]; simp
 have hc1 : W1.heap[w.heap.size]? = some (.cells #[.slice A ps0.length c, .slice none 0 0] 85 (0, 0)) := by rw [hW1]; exact heap_alloc_new _ _
 obtain ⟨xb, hxb⟩ : ∃ xb, xb = w.heap.size := ⟨_, rfl⟩;have hst : StU xb ps0 [] W1 := by
  rw [hxb];refine ⟨A, c, none, 0, [], hc1, RepB.mono (fun b h => ⟨Nat.ne_of_lt h, Nat.lt_trans h hs1, fun e => by cases e⟩) (fun p hp => hb1.cell hp) hr, RowG.nil _ _ _ _, rfl⟩
 obtain ⟨μ, hμ⟩ := least_fun fun wr n => ∃ ps bs, StU xb ps bs wr ∧ runU n ps bs = some r;have HST := Lib.hid hst; clear hst;have HB1 := Lib.hid hb1; clear hb1;have HW1 := Lib.hid hW1; clear hW1 hc1;have HMU := Lib.hid hμ; clear hμ;have HRUN := Lib.hid hrun; clear hrun;have HVA := Lib.hid hVA; clear hVA;have HXB := Lib.hid hxb; clear hxb hr;go_enter Tryz.func38, Tryz.ntmps38
 go_wp2_with fail
 rw [← HW1.out, ← HXB.out];go_loopw [5] (fun _ wr => ∃ (n : Nat) (ps bs : List Bd), Hid (StU xb ps bs wr) ∧ Hid (runU n ps bs = some r) ∧ Hid (Below xb w wr)) (fun _ wr => μ wr)
 case atStart => exact ⟨n0, ps0, [], HST.out, HRUN.out, by rw [HXB.out]; exact HB1.out⟩
 case round =>
  obtain ⟨n, ps, bs, HS1, HR1, HBW⟩ := hrel;obtain ⟨hle, -⟩ : (∃ ps bs, StU xb ps bs wr ∧ runU (μ wr) ps bs = some r) ∧ _ := HMU.out wr n ⟨ps, bs, HS1.out, HR1.out⟩;clear HS1 HR1;obtain ⟨ps, bs, hS1, hR1⟩ := hle;obtain ⟨PA, Pc, BA, Bc, its, hS⟩ := hS1;have hx := (Array.getElem?_eq_some_iff.1 hS.cell).1;obtain ⟨x0, x1, xf⟩ := qcu hS.cell
  cases ps with
  | nil =>
   obtain ⟨hg, hr9⟩ := run_nil hR1;subst hr9;obtain ⟨-, hbl, -, hbs⟩ := qc1.1 hg;have hil : its.length = bs.length := by rw [← hS.is, List.length_map]
   have hsz : ∀ x ∈ its, x.1.1.size ≤ 1000000 := fun x hx => by
    have hm : x.bd ∈ bs := by rw [← hS.is]; exact List.mem_map_of_mem hx
    have h := qai (hbs _ hm).1;have h : x.1.1.size ≤ 400 := h;omega
   have hva : qco (its.map IB.bd) := by rw [hS.is]; exact HVA.out rfl
   have AS := Lib.hid (qj3 wr (xb + 1) (fun b => b ≠ xb) BA Bc its.length its rfl (by omega) hS.row.bindB hsz hva);have HS := Lib.hid hS; clear hS hsz hva hbs hR1;have HIL := Lib.hid hil; clear hil hbl hg;go_wp2_with fail
   refine AS.out.mono ?_; clear AS x0 x1 xf;rintro e w5 ⟨rfl, its', hbd, hrow', hg'⟩;have HBD := Lib.hid hbd; clear hbd;have HRW := Lib.hid hrow'; clear hrow';have HG := Lib.hid hg'; clear hg';go_wp2_with fail
   go_ret2
   have hb5 : Below xb w w5 := HBW.out.grown HG.out (by omega) (fun j e => by have := (HS.out.row.lt _ e).1; omega);rw [HXB.out] at hb5;obtain ⟨A9, c9, hv9, hrb⟩ := HRW.out.toB (P := fun b => b < w5.heap.size) (fun b _ h => h) (fun b _ h => h);injection hv9 with g1 g2 g3;subst g1 g3;have e1 : (solvedU ((0 : Int), bs)).1 = qij bs := by simp [solvedU]
   have e2 : (qij bs).length = its.length := by rw [(qel _).length_eq, HIL.out]
   rw [HBD.out, HS.out.is] at hrb;exact ⟨BA, Bc, by rw [e1, e2]; rfl, by rw [e1]; exact hrb, hb5⟩
  | cons p ps =>
   obtain ⟨hg, hcase⟩ := run_cons hR1;have ST := step_any xb p ps bs PA Pc BA Bc its wr hS hg;have hgl := (qc1.1 hg).1;have i1 : (0 : Int) < ((p :: ps).length : Int) := by simp
   obtain ⟨q, hq⟩ : ∃ q, q = qa8 p.1 p.2 ps bs := ⟨_, rfl⟩;rw [← hq] at hcase ST;clear hq;obtain ⟨q1, q2, q3⟩ := q;have ST := Lib.hid ST;have HCASE := Lib.hid hcase; clear hcase hR1;have HS := Lib.hid hS; clear hS hg;go_wp2_with fail
   refine ST.out.mono ?_; clear ST x0 x1 xf;rintro e w5 ⟨rfl, hst5, hb5⟩;have HB5 := Lib.hid (HBW.out.trans hb5); clear hb5;have HST5 := Lib.hid hst5; clear hst5;rcases eq_facts q1 0 with ⟨h0, e0, n0'⟩ | ⟨h0, e0, n0'⟩
   ·rcases HCASE.out with ⟨h, -⟩ | ⟨-, m, hm, hrun⟩
    ·exact absurd h0 h
    have hS5 : StU xb q2 q3 w5 := HST5.out h0;have hm5 := (HMU.out w5 m ⟨q2, q3, hS5, hrun⟩).2;have HS5 := Lib.hid hS5; clear hS5;have HR5 := Lib.hid hrun; clear hrun HCASE;subst h0;go_wp2_with fail
    go_roundw
    case rel => exact ⟨m, q2, q3, HS5.out, HR5.out, HB5.out⟩
    case measure => omega
   ·rcases HCASE.out with ⟨-, h⟩ | ⟨h, -⟩
    ·subst h;clear HCASE HMU HRUN HVA;go_wp2_with fail
     go_ret2
     have hb5 := HB5.out;rw [HXB.out] at hb5;exact qis h0 hb5
    ·exact absurd h h0
structure StR (ps bs : List Bd) (PA : Option Addr) (Pc : Nat) (SA : Option Addr) (Sc : Nat) (w : World) : Prop where
 pairs : RepB w (fun b => b < w.heap.size) ps PA Pc
 binds : RepB w (fun b => b < w.heap.size) (qij bs) SA Sc
structure AtS (w : World) (bx by' : Nat) (o1 o2 : Obj) (Z : World) : Prop where
 bel : Below w.heap.size w Z
 one : Z.heap[bx]? = some o1
 two : Z.heap[by']? = some o2
theorem AtS.go {w Z Z' : World} {bx by' : Nat} {o1 o2 : Obj} (h : AtS w bx by' o1 o2 Z) (hb : Below Z.heap.size Z Z') : AtS w bx by' o1 o2 Z' :=
 ⟨qad h.bel hb h.bel.size, (hb.block _ (Array.getElem?_eq_some_iff.1 h.one).1).trans h.one, (hb.block _ (Array.getElem?_eq_some_iff.1 h.two).1).trans h.two⟩
theorem repB_one {w : World} {P : Nat → Prop} {B : Nat} {T : TypeId} (X : IB) (h : w.heap[B]? = some (.cells (bCells [X]).toArray T (0, 0))) (hP : P B) (h1 : RepP w P X.1.1 X.1.2.1 X.1.2.2) (h2 : RepP w P X.2.1 X.2.2.1 X.2.2.2) : RepB w P [X.bd] (some ⟨B, 0, none⟩) 1 := by
 refine ⟨Nat.le_refl _, by simp [maxLen], .inr ⟨B, 0, rfl, hP, ?_⟩⟩;have e : flat [X.bd] = (bits [X]).map (·.1) := (qfw [X]).symm;rw [e];refine qal.of_its (bits [X]) B 0 (fun j u hj => ?_) (fun y hy => ?_)
 ·have hj : (bCells [X])[j]? = some u := hj;rw [Nat.zero_add, cell_of_row w B j _ _ _ h]; simpa using hj
 ·obtain ⟨x, hx, e⟩ := qg3 hy;rw [List.mem_singleton] at hx;rw [hx] at e;rcases e with e | e
  ·rw [e]; exact h1
  ·rw [e]; exact h2
set_option maxHeartbeats 2000000 in
theorem qci (t u : Tm) (A A' : Option Addr) (c c' : Nat) (w : World) (r : Int × List Bd) (ht : t.size ≤ 1000000) (hu : u.size ≤ 1000000) (hrt : RepT w w.heap.size t A c) (hru : RepT w w.heap.size u A' c')
  (h1 : qax t u ≠ 0 → r = (qax t u, [])) (h2 : qax t u = 0 → ∃ n, runU n [(t, u)] [] = some r) :
  Calls Tryz.prog 12 #[t.val A c, u.val A' c'] w (qc2 r w) := by
 obtain ⟨V, hV⟩ : ∃ V, V = (w.alloc (boxT t A c)).alloc (boxT u A' c') := ⟨_, rfl⟩;have h2' : Two w t u A A' c c' V := by rw [hV]; exact Two.new _ _ _ _ _ _ _
 have VV := qej t u A A' c c' V ht hu (hrt.go h2'.lay.below h2'.lay.size) (hru.go h2'.lay.below h2'.lay.size);obtain ⟨v2, hv2⟩ : ∃ v, v = qax t u := ⟨_, rfl⟩;rw [← hv2] at h1 h2 VV;clear hv2;have H2 := Lib.hid h2';obtain ⟨a0, a1, a2, a3, -⟩ := qae h2'.one;obtain ⟨b0, b1, b2, b3, -⟩ := qae h2'.two;clear h2';simp only [boxT] at hV;have HV := Lib.hid hV; clear hV;have HRT := Lib.hid hrt; clear hrt;have HRU := Lib.hid hru; clear hru;have E1 := Lib.hid h1; clear h1;have E2 := Lib.hid h2; clear h2;simp only [Tm.val] at VV ⊢;have VV := Lib.hid VV;go_enter Tryz.func12, Tryz.ntmps12
 go_wp2_with fail
 rw [← HV.out];go_wp2_with fail
 refine VV.out.mono ?_; clear VV a0 a1 a2 a3 b0 b1 b2 b3;rintro e w1 ⟨rfl, hl1⟩;rcases eq_facts v2 0 with ⟨h0, e0, n0⟩ | ⟨h0, e0, n0⟩
 ·obtain ⟨n, hrun⟩ := E2.out h0;subst h0;clear E1 E2;obtain ⟨a0, a1, a2, a3, -⟩ := qae (H2.out.go hl1).one;obtain ⟨b0, b1, b2, b3, -⟩ := qae (H2.out.go hl1).two;have hl := (H2.out.go hl1).lay;obtain ⟨W2, hW2⟩ : ∃ W2, W2 = w1.alloc (.cells (bCells [((t, A, c), (u, A', c'))]).toArray 53) := ⟨_, rfl⟩;have hx2 : W2.heap[w1.heap.size]? = some (.cells (bCells [((t, A, c), (u, A', c'))]).toArray 53 (0, 0)) := by rw [hW2]; exact heap_alloc_new _ _
  have hb2 : Below w1.heap.size w1 W2 := by rw [hW2]; exact qaf (Nat.le_refl _) _
  have hbw : Below w.heap.size w W2 := qad hl.below hb2 hl.size;have hlt : w1.heap.size < W2.heap.size := (Array.getElem?_eq_some_iff.1 hx2).1;have hsz := hl.size;have SO := solve_any n [(t, u)] r (some ⟨w1.heap.size, 0, none⟩) 1 W2 (repB_one ((t, A, c), (u, A', c')) hx2 hlt (RepP.mono (fun b (h : b < w.heap.size) => by show b < _; omega) (fun p (hp : p.block < w.heap.size) => hbw.cell hp) _ _ _ HRT.out) (RepP.mono (fun b (h : b < w.heap.size) => by show b < _; omega) (fun p (hp : p.block < w.heap.size) => hbw.cell hp) _ _ _ HRU.out)) hrun;have SO := Lib.hid SO;have HBW := Lib.hid hbw; clear hbw hb2 hx2 hl hl1 hrun;simp only [bCells, bits, itCells, Tm.cells, List.cons_append, List.nil_append] at hW2;have HW2 := Lib.hid hW2; clear hW2 hlt;go_wp2_with fail
  rw [← HW2.out];refine SO.out.mono ?_; clear SO;rintro e w5 ⟨A9, c9, rfl, hrep, hb5⟩;have HREP := Lib.hid hrep; clear hrep;have HB5 := Lib.hid (qad HBW.out hb5 HBW.out.size); clear hb5;go_wp2_with fail
  go_ret2
  exact ⟨A9, c9, rfl, HREP.out, HB5.out⟩
 ·have hr := E1.out h0;subst hr;have HL := Lib.hid (H2.out.go hl1).lay; clear hl1 E1 E2;go_wp2_with fail
  go_ret2
  exact qis h0 HL.out.below
end Go.Proofs.YtpjmdilpldaapaaGreatDoor
namespace Go.Proofs.YtpjmdilpldaapaaGreatDoor
theorem qlq {t u : Tm} (h : qax t u = 0) : t.valid = 0 ∧ u.valid = 0 := by
 unfold qax at h
 split at h
 ·rename_i h1; exact absurd h h1
 ·rename_i h1; exact ⟨by simpa using h1, h⟩
theorem vars_len (t u : Tm) (ht : t.valid = 0) (hu : u.valid = 0) : (qji [(t, u)]).length ≤ 2000 := by
 have h1 := (qat.1 ht).2.1;have h2 := (qat.1 hu).2.1;have h3 : (qji [(t, u)]).length ≤ (t.all ++ u.all).length := by
  unfold qji;refine Nat.le_trans (List.length_filter_le _ _) ?_;simp
 rw [List.length_append, Tm.all_length, Tm.all_length] at h3;omega
theorem qhd (t u : Tm) : ∃ r : Int × List Bd, (qax t u ≠ 0 → r = (qax t u, [])) ∧ (qax t u = 0 → ∃ n, runU n [(t, u)] [] = some r) := by
 by_cases h : qax t u = 0
 ·obtain ⟨h1, h2⟩ := qlq h;obtain ⟨n, r, hr⟩ := start_ex (ps := [(t, u)]) (fun p hp => by rw [List.mem_singleton] at hp; subst hp; exact ⟨h1, h2⟩) (by simp) (vars_len t u h1 h2);exact ⟨r, fun hn => absurd h hn, fun _ => ⟨n, hr⟩⟩
 ·exact ⟨(qax t u, []), fun _ => rfl, fun hn => absurd hn h⟩
theorem qgh {n : Nat} {t u : Tm} {r : Int × List Bd} (h : runU n [(t, u)] [] = some r) : ∀ b ∈ (solvedU r).1, b.1.valid = 0 ∧ b.1.kind = 1 ∧ b.2.valid = 0 := by
 intro b hb;unfold solvedU at hb
 split at hb
 ·rename_i h0
  obtain ⟨e, s⟩ := r;have h0 : e = 0 := h0;subst h0;exact (qhj h ⟨List.Pairwise.nil, by simp⟩).2.2.2.1 b ((qel s).mem_iff.1 hb)
 ·exact absurd hb (by simp)
theorem qlt {t u : Tm} {r : Int × List Bd} (h1 : qax t u ≠ 0 → r = (qax t u, [])) (h2 : qax t u = 0 → ∃ n, runU n [(t, u)] [] = some r) : qfy (solvedU r).1 := by
 intro b hb;by_cases hv : qax t u = 0
 ·obtain ⟨n, hr⟩ := h2 hv;obtain ⟨a1, -, a3⟩ := qgh hr b hb;have := qai a1;have := qai a3;exact ⟨by omega, by omega⟩
 ·rw [h1 hv] at hb;unfold solvedU at hb;rw [if_neg (by simpa using hv)] at hb;exact absurd hb (by simp)
end Go.Proofs.YtpjmdilpldaapaaGreatDoor
namespace Go.Proofs.YtpjmdilpldaapaaGreatDoor
open Go.RowKit Go.Sort
set_option maxHeartbeats 1200000 in
theorem qe4 (l m : List Bd) (A0 A1 : Option Addr) (cap0 cap1 : Nat) (w : World) (hl : qfy l) (hm : qfy m) (hrl : RepB w (fun b => b < w.heap.size) l A0 cap0) (hrm : RepB w (fun b => b < w.heap.size) m A1 cap1) :
  Calls Tryz.prog 14 #[.slice A0 l.length cap0, .slice A1 m.length cap1] w fun e w' => e = .returned (.bool (decide (l = m))) ∧ Lay w.heap.size w w' := by
 have mixed : Tryz.prog.follows .mixedOrders = true := by kernel_rfl
 have h1 := hrl.1;have h2 := hrl.2.1;have h3 := hrm.1;have h4 := hrm.2.1;unfold maxLen at h2 h4;have HRL := Lib.hid hrl; clear hrl;have HRM := Lib.hid hrm; clear hrm;by_cases hne : l.length = m.length
 ·have hnb : ((l.length : Int) != (m.length : Int)) = false := by simp [hne]
  have HL := Lib.hid hl; clear hl;have HNE := Lib.hid hne; clear hne;have HM := Lib.hid hm; clear hm;go_enter Tryz.func14, Tryz.ntmps14
  go_wp2_with fail
  go_loopw [5] (fun i wr => ∃ k : Nat, k ≤ l.length ∧ i = .int .i64 k ∧ Hid (l.take k = m.take k) ∧ Hid (Lay w.heap.size w wr))
   (fun i _ => l.length - (intOf i).toNat)
  case atStart => exact ⟨0, Nat.zero_le _, rfl, rfl, Lay.refl _ _⟩
  case round =>
   obtain ⟨k, hk, rfl, HT, HLW⟩ := hrel;have i1 : (0 : Int) ≤ (k : Int) := Int.natCast_nonneg _;by_cases hlt : k < l.length
   ·have hlt2 : k < m.length := by have := HNE.out; omega
    have i2 : (k : Int) < (l.length : Int) := by omega
    have i3 : (k : Int) < (m.length : Int) := by omega
    rcases HRL.out.2.2 with h | ⟨b, off, hA0, hbB, hlp⟩
    ·rw [h] at hlt; simp at hlt
    rcases HRM.out.2.2 with h | ⟨b', off', hA1, hbB', hmp⟩
    ·rw [h] at hlt2; simp at hlt2
    subst hA0 hA1;have hss := HLW.out.size;obtain ⟨A, c, A', c', h8⟩ := (show qal wr (fun b => b < w.heap.size) (flat l) b off from qal.mono (fun _ h => h) (fun p hp => HLW.out.below.cell hp) _ _ _ hbB hlp).get8 k hlt;obtain ⟨C, d, C', d', g8⟩ := (show qal wr (fun b => b < w.heap.size) (flat m) b' off' from qal.mono (fun _ h => h) (fun p hp => HLW.out.below.cell hp) _ _ _ hbB' hmp).get8 k hlt2;have lift : ∀ (y : Tm) B e, RepP wr (fun b => b < w.heap.size) y B e → RepT wr wr.heap.size y B e := fun y B e h => RepP.mono (fun b (h : b < w.heap.size) => Nat.lt_of_lt_of_le h hss) (fun _ _ => rfl) _ _ _ h;have C1 : Hid (∀ X, Lay wr.heap.size wr X → Calls Tryz.prog 15 #[l[k].1.val A c, m[k].1.val C d] X fun e w' => e = .returned (.bool (l[k].1.same m[k].1)) ∧ Lay X.heap.size X w') := Lib.hid fun X hX =>
     qdr _ _ _ _ _ _ X (HL.out _ (List.getElem_mem _)).1 (HM.out _ (List.getElem_mem _)).1 ((lift _ _ _ h8.r1).go hX.below hX.size) ((lift _ _ _ g8.r1).go hX.below hX.size)
    have C2 : Hid (∀ X, Lay wr.heap.size wr X → Calls Tryz.prog 15 #[l[k].2.val A' c', m[k].2.val C' d'] X fun e w' => e = .returned (.bool (l[k].2.same m[k].2)) ∧ Lay X.heap.size X w') := Lib.hid fun X hX =>
     qdr _ _ _ _ _ _ X (HL.out _ (List.getElem_mem _)).2 (HM.out _ (List.getElem_mem _)).2 ((lift _ _ _ h8.r2).go hX.below hX.size) ((lift _ _ _ g8.r2).go hX.below hX.size)
    obtain ⟨q1, hq1⟩ : ∃ c, c = l[k].1.same m[k].1 := ⟨_, rfl⟩;obtain ⟨q2, hq2⟩ : ∃ c, c = l[k].2.same m[k].2 := ⟨_, rfl⟩;rw [← hq1] at C1;rw [← hq2] at C2;have HQ1 := Lib.hid hq1; clear hq1;have HQ2 := Lib.hid hq2; clear hq2;have hcell : ∀ n os o, (grow (wr.drewN n) os).cell? ⟨b, o, none⟩ = wr.cell? ⟨b, o, none⟩ := fun n os o => (Lay.of_grow (w := wr) n os).below.cell (by show b < _; omega);have hcell' : ∀ n os o, (grow (wr.drewN n) os).cell? ⟨b', o, none⟩ = wr.cell? ⟨b', o, none⟩ := fun n os o => (Lay.of_grow (w := wr) n os).below.cell (by show b' < _; omega);have p0 := fun n os => (hcell n os _).trans h8.c0;have p1 := fun n os => (hcell n os _).trans h8.c1;have p2 := fun n os => (hcell n os _).trans h8.c2;have p3 := fun n os => (hcell n os _).trans h8.c3;have p4 := fun n os => (hcell n os _).trans h8.c4;have p5 := fun n os => (hcell n os _).trans h8.c5
    have p6 := fun n os => (hcell n os _).trans h8.c6;have p7 := fun n os => (hcell n os _).trans h8.c7;have y0 := fun n os => (hcell' n os _).trans g8.c0;have y1 := fun n os => (hcell' n os _).trans g8.c1;have y2 := fun n os => (hcell' n os _).trans g8.c2;have y3 := fun n os => (hcell' n os _).trans g8.c3;have y4 := fun n os => (hcell' n os _).trans g8.c4;have y5 := fun n os => (hcell' n os _).trans g8.c5;have y6 := fun n os => (hcell' n os _).trans g8.c6;have y7 := fun n os => (hcell' n os _).trans g8.c7;obtain ⟨a0, a1, a2, a3, a4, a5, a6, a7, -, -⟩ := h8;obtain ⟨b0, b1, b2, b3, b4, b5, b6, b7, -, -⟩ := g8;clear lift hlp hmp hcell hcell';have HSS := Lib.hid hss; clear hss;simp only [Tm.val] at C1 C2
    cases q1 with
    | false =>
     have HE := Lib.hid (qe3 (l := l) (m := m) (fun e => by subst e; exact (Tm.same_false.1 HQ1.out.symm) rfl));go_wp2_with fail
     refine wp_region_quiet_grown (by assumption) (by kernel_rfl) (of_WQ ?_)
     iterate 13
      refine qgd (fun K hK => ?_);go_simp
      first
       | (refine hK _ ?_; clear hK K)
       | (apply Exists.intro
          refine ⟨fun _ => ?_, hK _ ?_⟩
          (go_at_call 15; with_reducible exact qak (C1.out _ (Lay.of_grow _ _)))
          clear hK K)
     iterate 12 (refine WQ_skip rfl ?_; simp only [Act.put, List.setIfInBounds_toArray, List.set_cons_succ, List.set_cons_zero])
     refine qgd (fun K hK => ?_);go_simp
     first
      | (refine hK _ ?_; clear hK K)
      | (apply Exists.intro
         refine ⟨fun _ => ?_, hK _ ?_⟩
         (fail)
         clear hK K)
     refine WQ_nil ?_;intro _ hw';obtain ⟨⟨nq, osq⟩, hw''⟩ := hw';subst hw'';go_wp2_with fail
     go_ret
     exact ⟨by rw [HE.out]; rfl, HLW.out.trans ((Lay.of_grow _ _).mono HSS.out)⟩
    | true =>
     cases q2 with
     | false =>
      have HE := Lib.hid (qe3 (l := l) (m := m) (fun e => by subst e; exact (Tm.same_false.1 HQ2.out.symm) rfl));go_wp2_with fail
      refine wp_region_quiet_grown (by assumption) (by kernel_rfl) (of_WQ ?_)
      iterate 11
       refine qgd (fun K hK => ?_);go_simp
       first
        | (refine hK _ ?_; clear hK K)
        | (apply Exists.intro
           refine ⟨fun _ => ?_, hK _ ?_⟩
           (go_at_call 15; with_reducible exact qak (C1.out _ (Lay.of_grow _ _)))
           clear hK K)
      iterate 15
       refine qgd (fun K hK => ?_);go_simp
       first
        | (refine hK _ ?_; clear hK K)
        | (apply Exists.intro
           refine ⟨fun _ => ?_, hK _ ?_⟩
           (go_at_call 15; with_reducible exact qak (C2.out _ (Lay.of_grow _ _)))
           clear hK K)
      refine WQ_nil ?_;intro _ hw';obtain ⟨⟨nq, osq⟩, hw''⟩ := hw';subst hw'';go_wp2_with fail
      go_ret
      exact ⟨by rw [HE.out]; rfl, HLW.out.trans ((Lay.of_grow _ _).mono HSS.out)⟩
     | true =>
      have HK : Hid (l[k] = m[k]) := Prod.ext (Tm.same_iff.1 HQ1.out.symm) (Tm.same_iff.1 HQ2.out.symm);go_wp2_with fail
      refine wp_region_quiet_grown (by assumption) (by kernel_rfl) (of_WQ ?_)
      iterate 11
       refine qgd (fun K hK => ?_);go_simp
       first
        | (refine hK _ ?_; clear hK K)
        | (apply Exists.intro
           refine ⟨fun _ => ?_, hK _ ?_⟩
           (go_at_call 15; with_reducible exact qak (C1.out _ (Lay.of_grow _ _)))
           clear hK K)
      iterate 15
       refine qgd (fun K hK => ?_);go_simp
       first
        | (refine hK _ ?_; clear hK K)
        | (apply Exists.intro
           refine ⟨fun _ => ?_, hK _ ?_⟩
           (go_at_call 15; with_reducible exact qak (C2.out _ (Lay.of_grow _ _)))
           clear hK K)
      refine WQ_nil ?_;intro _ hw';obtain ⟨⟨nq, osq⟩, hw''⟩ := hw';subst hw'';go_wp2_with fail
      go_roundw
      case rel => exact ⟨k + 1, by omega, by go_num, (by show l.take (k + 1) = m.take (k + 1); rw [List.take_succ_eq_append_getElem hlt, List.take_succ_eq_append_getElem hlt2, HT.out, HK.out]), HLW.out.trans ((Lay.of_grow _ _).mono HSS.out)⟩
      case measure => simp [intOf]; omega
   ·obtain rfl : k = l.length := by omega
    have e : l = m := by have h := HT.out; rwa [List.take_length, HNE.out, List.take_length] at h
    have HE : Hid (decide (l = m) = true) := decide_eq_true e;clear e;go_wp2_with fail
    go_ret
    exact ⟨by rw [HE.out]; rfl, HLW.out⟩
 ·have hnb : ((l.length : Int) != (m.length : Int)) = true := by simp; omega
  rw [qe3 (fun e => hne (by rw [e]))];go_enter Tryz.func14, Tryz.ntmps14
  go_wp2_with fail
  go_ret
  exact ⟨rfl, Lay.refl _ _⟩
def qX : Tm := .mk 1 ⟨#[120]⟩ 0 []
def qY : Tm := .mk 1 ⟨#[121]⟩ 0 []
def qN : Tm := .mk 1 ⟨#[121]⟩ 2 []
def qA : Tm := .mk 2 ⟨#[97]⟩ 0 []
def qB : Tm := .mk 2 ⟨#[98]⟩ 0 []
def qXn : Tm := .mk 1 ⟨#[120]⟩ 2 []
def qBk : Tm := .mk 2 ⟨#[98]⟩ 3 []
def qP : Tm := .mk 2 ⟨#[97]⟩ 2 []
def qQ : Tm := .mk 2 ⟨#[99]⟩ 2 []
def qFXY : Tm := .mk 3 ⟨#[102]⟩ 0 [qX, qY]
def qFYA : Tm := .mk 3 ⟨#[102]⟩ 0 [qY, qA]
def qFX : Tm := .mk 3 ⟨#[102]⟩ 0 [qX]
def qG : Tm := .mk 3 ⟨#[103]⟩ 0 []
def qdm : Tm := .mk 3 ⟨#[102]⟩ 0 [qP, qB, qP]
def qc6 : Tm := .mk 3 ⟨#[102]⟩ 0 [qQ, qG, qQ]
def qG0 : Tm := .mk 1 ⟨#[103, 48]⟩ 2 []
def qG1 : Tm := .mk 1 ⟨#[103, 49]⟩ 0 []
def qFG : Tm := .mk 3 ⟨#[102]⟩ 0 [qG0, qG1, qG0]
def qS1 : List Bd := [(qX, qA), (qY, qA)]
def qS2 : List Bd := [(qY, qX)]
def qS3 : List Bd := [(qX, qN)]
theorem aw_v1 : qax qFXY qFYA = 0 := by decide
theorem aw_v2 : qax qX qY = 0 := by decide
theorem aw_v3 : qax qX qN = 0 := by decide
theorem aw_v4 : qax qXn qBk = 0 := by decide
theorem aw_v5 : qax qX qFX = 0 := by decide
theorem aw_v6 : qax qdm qc6 = 0 := by decide
theorem aw_r1 : runU 10 [(qFXY, qFYA)] [] = some (0, [(qY, qX), (qX, qA)].map fun b => (b.1, b.2.put [(qX, qA)])) := by decide
theorem aw_r2 : runU 10 [(qX, qY)] [] = some (0, [(qY, qX)]) := by decide
theorem aw_r3 : runU 10 [(qX, qN)] [] = some (0, [(qX, qN)]) := by decide
theorem aw_r4 : runU 10 [(qXn, qBk)] [] = some (11, []) := by decide
theorem aw_r5 : runU 10 [(qX, qFX)] [] = some (12, []) := by decide
theorem aw_s1 : (solvedU (0, [(qY, qX), (qX, qA)].map fun b => (b.1, b.2.put [(qX, qA)]))).1 = qS1 := by decide
theorem aw_s2 : (solvedU (0, [(qY, qX)])).1 = qS2 := by decide
theorem aw_s3 : (solvedU (0, [(qX, qN)])).1 = qS3 := by decide
theorem gname0 : qaw 0 = ⟨#[103, 48]⟩ := by
 unfold qaw; rw [Lib.decDigits_one (by decide)]; rfl
theorem gname1 : qaw 1 = ⟨#[103, 49]⟩ := by
 unfold qaw; rw [Lib.decDigits_one (by decide)]; rfl
theorem qh8 : genR qdm qc6 = (qFG, 0) := by
 have h : genE qdm qc6 = .mk 3 ⟨#[102]⟩ 0 [.mk 1 (qaw 0) 2 [], .mk 1 (qaw 1) 0 [], .mk 1 (qaw 0) 2 []] := by rfl
 unfold genR;rw [if_neg (by rw [aw_v6]; decide), h, gname0, gname1];rfl
theorem qd4 : (qg9 qdm qc6).length = 0 := by decide
theorem qf3 (x : ByteArray) (so : Int) (w : World) :
  Calls Tryz.prog 33 #[.string x, .int .i64 so] w fun e w' => e = .returned ((Tm.mk 1 x so []).val none 0) ∧ Lay w.heap.size w w' := by
 simp only [Tm.val, Tm.kind, Tm.name, Tm.sort, Tm.kids];go_enter Tryz.func33, Tryz.ntmps33
 go_wp2_with fail
 refine bodyPost_ret (v := .agg #[.int .i64 1, .string x, .int .i64 so, .slice none 0 0]) ?_ rfl ?_
 ·simp [results, Tryz.results33, go_sem]
 exact ⟨rfl, (Lay.refl _ _).alloc (Nat.le_refl _) _⟩
theorem qnw {w : World} {P : Nat → Prop} {b : Nat} {T : TypeId} (its : List IB) (hB : w.heap[b]? = some (.cells (bCells its).toArray T (0, 0))) (hb : P b) (hr : ∀ x ∈ its, RepP w P x.1.1 x.1.2.1 x.1.2.2 ∧ RepP w P x.2.1 x.2.2.1 x.2.2.2) (hlen : its.length ≤ 1000) :
  RepB w P (its.map IB.bd) (some ⟨b, 0, none⟩) its.length := by
 refine ⟨by simp, by unfold maxLen; omega, .inr ⟨b, 0, rfl, hb, ?_⟩⟩;rw [← qfw];refine qal.of_its (bits its) b 0 (fun j u hj => ?_) (fun y hy => ?_)
 ·unfold World.cell?;rw [hB];unfold bCells;simpa using hj
 ·obtain ⟨x, hx, e⟩ := qg3 hy;rcases e with rfl | rfl
  ·exact (hr x hx).1
  ·exact (hr x hx).2
theorem qke {Z Z1 : World} (its : List It) {T : TypeId} (h : Z1 = Z.alloc (.cells (itCells its).toArray T)) (hlen : its.length ≤ 1000) (hr : ∀ x ∈ its, RepT Z Z.heap.size x.1 x.2.1 x.2.2) :
  RepS Z1 (fun b => b < Z1.heap.size) (its.map (·.1)) (some ⟨Z.heap.size, 0, none⟩) its.length ∧ Below Z.heap.size Z Z1 := by
 have hb : Below Z.heap.size Z Z1 := by rw [h]; exact qaf (Nat.le_refl _) _
 refine ⟨qnv its (by rw [h]; exact heap_alloc_new _ _) (by rw [h]; simp) (fun x hx => (hr x hx).go hb hb.size) hlen, hb⟩
theorem qjd {Z Z1 : World} (its : List IB) {T : TypeId} (h : Z1 = Z.alloc (.cells (bCells its).toArray T)) (hlen : its.length ≤ 1000) (hr : ∀ x ∈ its, RepT Z Z.heap.size x.1.1 x.1.2.1 x.1.2.2 ∧ RepT Z Z.heap.size x.2.1 x.2.2.1 x.2.2.2) :
  RepB Z1 (fun b => b < Z1.heap.size) (its.map IB.bd) (some ⟨Z.heap.size, 0, none⟩) its.length ∧ Below Z.heap.size Z Z1 := by
 have hb : Below Z.heap.size Z Z1 := by rw [h]; exact qaf (Nat.le_refl _) _
 refine ⟨qnw its (by rw [h]; exact heap_alloc_new _ _) (by rw [h]; simp) (fun x hx => ⟨(hr x hx).1.go hb hb.size, (hr x hx).2.go hb hb.size⟩) hlen, hb⟩
set_option maxHeartbeats 1000000 in
theorem qg6 (x : ByteArray) (w : World) (hx : x.size ≤ maxLen) :
  Calls Tryz.prog 35 #[.string x, .slice none 0 0] w fun e w' => ∃ A' c', e = .returned ((Tm.mk 3 x 0 []).val A' c') ∧ RepP w' (fun b => b < w'.heap.size) (.mk 3 x 0 []) A' c' ∧ Below w.heap.size w w' := by
 obtain ⟨V, hV⟩ : ∃ V, V = (w.alloc (.cells #[.int .i64 0, .string ⟨#[]⟩, .int .i64 0, .slice none 0 0] 24)).alloc (.cells #[] 24) := ⟨_, rfl⟩;have hb1 : Below w.heap.size w V := by rw [hV]; exact (qaf (Nat.le_refl _) _).alloc (by simp) _
 have hown : V.ownsRow (w.heap.size + 1) 24 4 (.slice (some ⟨w.heap.size + 1, 0, none⟩) 0 0) 0 [] := by
  have h := World.ownsRow_made (base := w.heap.size + 1) (e := 24) (size := 4) (w.alloc (.cells #[.int .i64 0, .string ⟨#[]⟩, .int .i64 0, .slice none 0 0] 24)) #[] 0 (by simp) (by simp [maxLen]) rfl;rw [World.size_alloc] at h;rw [hV];exact h
 have hap := fun ty => qeg hown none 0 ty;have hbx : V.heap[w.heap.size]? = some (.cells #[.int .i64 0, .string ⟨#[]⟩, .int .i64 0, .slice none 0 0] 24 (0, 0)) := by
  rw [hV, Below.heap_alloc _ _ _ (by simp)]; exact heap_alloc_new _ _
 obtain ⟨r0, r1, r2, r3, rf⟩ := qae hbx;rw [hV] at hap r0 r1 r2 r3 rf;clear hV hb1 hbx hown;simp only [Tm.val, Tm.kind, Tm.name, Tm.sort, Tm.kids, List.length_nil];go_enter Tryz.func35, Tryz.ntmps35
 go_wp2_with (at_builtin; refine qaj rfl _ _ rfl rfl rfl hap ?_)
 refine bodyPost_ret (v := .agg #[.int .i64 3, .string x, .int .i64 0, .slice (some ⟨w.heap.size + 1, 0, none⟩) 0 0]) ?_ rfl ?_
 ·simp [results, Tryz.results35, go_sem]
 refine ⟨some ⟨w.heap.size + 1, 0, none⟩, 0, rfl, ?_, ?_⟩
 ·rw [qbf];exact ⟨hx, Nat.le_refl _, Nat.zero_le _, .inl rfl⟩
 ·exact (qaf (Nat.le_refl _) _).alloc (by simp) _
inductive Fact where
 | box (B : Nat) (t : Tm) (A : Option Addr) (c : Nat)
 | term (t : Tm) (A : Option Addr) (c : Nat)
 | terms (l : List Tm) (A : Option Addr) (c : Nat)
 | binds (l : List Bd) (A : Option Addr) (c : Nat)
def Fact.holds (V : World) : Fact → Prop
 | .box B t A c => BoxT V B t A c
 | .term t A c => RepT V V.heap.size t A c
 | .terms l A c => RepS V (fun b => b < V.heap.size) l A c
 | .binds l A c => RepB V (fun b => b < V.heap.size) l A c
theorem Fact.below {V V' : World} (hb : Below V.heap.size V V') : ∀ f : Fact, f.holds V → f.holds V'
 | .box _ _ _ _, h => BoxT.below h hb
 | .term _ _ _, h => RepP.mono (fun b (hk : b < V.heap.size) => Nat.lt_of_lt_of_le hk hb.size) (fun _ hp => hb.cell hp) _ _ _ h
 | .terms _ _ _, h => RepS.mono (fun b (hk : b < V.heap.size) => Nat.lt_of_lt_of_le hk hb.size) (fun _ hp => hb.cell hp) h
 | .binds _ _ _, h => RepB.go h hb hb.size
def qab (w : World) : List Fact → World → Prop
 | [], V => Below w.heap.size w V
 | f :: r, V => f.holds V ∧ qab w r V
theorem qab.bel {w V : World} : ∀ {fs : List Fact}, qab w fs V → Below w.heap.size w V
 | [], h => h
 | _ :: _, h => qab.bel h.2
theorem qab.below {w V V' : World} (hb : Below V.heap.size V V') : ∀ {fs : List Fact}, qab w fs V → qab w fs V'
 | [], h => h.trans (hb.mono (Below.size h))
 | f :: _, h => ⟨f.below hb h.1, qab.below hb h.2⟩
theorem qab.add {w V : World} {fs : List Fact} (f : Fact) (h : qab w fs V) (hf : f.holds V) : qab w (f :: fs) V := ⟨hf, h⟩
theorem qab.boxed {w V : World} {fs : List Fact} (h : qab w fs V) {t : Tm} {A : Option Addr} {c : Nat} (hr : RepT V V.heap.size t A c) : qab w (.box V.heap.size t A c :: fs) (V.alloc (qa5 t A c)) :=
 ⟨BoxT.new hr, h.below (qaf (Nat.le_refl _) _)⟩
theorem qab.slice {w V V1 : World} {fs : List Fact} (h : qab w fs V) (its : List It) {T : TypeId} (hV : V1 = V.alloc (.cells (itCells its).toArray T)) (hlen : its.length ≤ 1000) (hr : ∀ x ∈ its, RepT V V.heap.size x.1 x.2.1 x.2.2) :
  qab w (.terms (its.map (·.1)) (some ⟨V.heap.size, 0, none⟩) its.length :: fs) V1 :=
 ⟨(qke its hV hlen hr).1, h.below (qke its hV hlen hr).2⟩
theorem qab.bslice {w V V1 : World} {fs : List Fact} (h : qab w fs V) (its : List IB) {T : TypeId} (hV : V1 = V.alloc (.cells (bCells its).toArray T)) (hlen : its.length ≤ 1000) (hr : ∀ x ∈ its, RepT V V.heap.size x.1.1 x.1.2.1 x.1.2.2 ∧ RepT V V.heap.size x.2.1 x.2.2.1 x.2.2.2) :
  qab w (.binds (its.map IB.bd) (some ⟨V.heap.size, 0, none⟩) its.length :: fs) V1 :=
 ⟨(qjd its hV hlen hr).1, h.below (qjd its hV hlen hr).2⟩
theorem qab.boxes2 {w V : World} {fs : List Fact} (h : qab w fs V) {t1 t2 : Tm} {A1 A2 : Option Addr} {c1 c2 : Nat} (h1 : RepT V V.heap.size t1 A1 c1) (h2 : RepT V V.heap.size t2 A2 c2) :
  qab w (.box (V.heap.size + 1) t2 A2 c2 :: .box V.heap.size t1 A1 c1 :: fs) ((V.alloc (qa5 t1 A1 c1)).alloc (qa5 t2 A2 c2)) := by
 have k := (h.boxed h1).boxed (t := t2) (A := A2) (c := c2) (h2.go (qaf (Nat.le_refl _) _) (by simp));rw [World.size_alloc] at k;exact k
theorem qab.boxes3 {w V : World} {fs : List Fact} (h : qab w fs V) {t1 t2 t3 : Tm} {A1 A2 A3 : Option Addr} {c1 c2 c3 : Nat} (h1 : RepT V V.heap.size t1 A1 c1) (h2 : RepT V V.heap.size t2 A2 c2) (h3 : RepT V V.heap.size t3 A3 c3) :
  qab w (.box (V.heap.size + 1 + 1) t3 A3 c3 :: .box (V.heap.size + 1) t2 A2 c2 :: .box V.heap.size t1 A1 c1 :: fs) (((V.alloc (qa5 t1 A1 c1)).alloc (qa5 t2 A2 c2)).alloc (qa5 t3 A3 c3)) := by
 have k := (h.boxes2 h1 h2).boxed (t := t3) (A := A3) (c := c3) ((h3.go (qaf (Nat.le_refl _) (qa5 t1 A1 c1)) (by simp)).go (qaf (Nat.le_refl _) _) (by simp));rw [World.size_alloc, World.size_alloc] at k;exact k
theorem qab.rebase {w V : World} : ∀ {fs : List Fact}, qab w fs V → qab V fs V
 | [], _ => Below.refl _ _
 | _ :: _, h => ⟨h.1, qab.rebase h.2⟩
theorem qab.unbase {w D V : World} (hw : Below w.heap.size w D) : ∀ {fs : List Fact}, qab D fs V → qab w fs V
 | [], h => hw.trans (Below.mono h hw.size)
 | _ :: _, h => ⟨h.1, qab.unbase hw h.2⟩
theorem qas (V : World) (B : Nat) (k s : Int) (n : ByteArray) (h : n.size ≤ maxLen) : RepT V B (.mk k n s []) none 0 := by
 rw [qb6]; exact ⟨h, Nat.zero_le _, Nat.zero_le _, .inl rfl⟩
theorem aw_s4 : (solvedU (11, [])).1 = [] := by decide
theorem aw_s5 : (solvedU (12, [])).1 = [] := by decide
theorem qmv : qfy qS1 := fun b hb => by
 simp only [qS1, List.mem_cons, List.not_mem_nil, or_false] at hb;rcases hb with rfl | rfl <;> exact ⟨by decide, by decide⟩
theorem qmu : qfy qS2 := fun b hb => by
 simp only [qS2, List.mem_cons, List.not_mem_nil, or_false] at hb;subst hb; exact ⟨by decide, by decide⟩
theorem qmt : qfy qS3 := fun b hb => by
 simp only [qS3, List.mem_cons, List.not_mem_nil, or_false] at hb;subst hb; exact ⟨by decide, by decide⟩
end Go.Proofs.YtpjmdilpldaapaaGreatDoor
