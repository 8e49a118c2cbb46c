/- Urvars, Urapart, Urgen, Usim, Uapart, Udisj, Udisj0, Uvar0, Uins0 (joined by shake.py). -/
import Derived.Test.YtpjmdilpldaapaaGreatDoorK5
import Derived.Test.YtpjmdilpldaapaaGreatDoorK6
import Derived.Test.YtpjmdilpldaapaaGreatDoorK12
import Derived.Test.YtpjmdilpldaapaaGreatDoorK14
import Derived.Test.YtpjmdilpldaapaaGreatDoorK15
import Derived.Test.YtpjmdilpldaapaaGreatDoorK16
import Derived.Test.YtpjmdilpldaapaaGreatDoorK18
import Derived.Test.YtpjmdilpldaapaaGreatDoorK20
import Derived.Test.YtpjmdilpldaapaaGreatDoorK22
import Derived.Deep.Cut
set_option maxRecDepth 100000
namespace Go.Proofs.YtpjmdilpldaapaaGreatDoor
open Go.RowKit Go.Sort
theorem ql8 {w : World} {base base2 B : Nat} {v : Value} {its its2 : List It} (hrow : RowT w base (fun b => b < B) v its) (hB : B ≤ base) (hbase : base ≤ w.heap.size) {A : Option Addr} {c m : Nat} (hrow2 : RowT w base2 (fun b => b < B) (.slice A m c) its2) (hlen : its.length + m ≤ 100000000) :
  ∃ A' c' w', (∀ ty, (Builtin.append_ #[22, 22] ty #[v, .slice A m c]).run Tryz.prog w = .ok (.slice A' (its.length + m) c') w') ∧
   RowT w' base (fun b => b < B) (.slice A' (its.length + m) c') (its ++ its2) ∧ (∀ W0 B0, Below B0 W0 w → B0 ≤ base → Below B0 W0 w') := by
 have grown : ∀ {w1 : World}, w.grownBy w1 v.ownBlock → ∀ W0 B0, Below B0 W0 w → B0 ≤ base → Below B0 W0 w1 := fun hg W0 B0 hb hB0 =>
  qar hb (by omega) hg (fun k hk => by have := (hrow.lt k hk).1; omega)
 have hm := hrow2.len;by_cases h0 : m = 0
 ·subst h0;have : its2 = [] := List.eq_nil_of_length_eq_zero hm.symm;subst this;have hc0 : ∀ ty, (Builtin.append_ #[22, 22] ty #[v, .slice A 0 c]).run Tryz.prog w = .ok v w := fun ty => qd2 hrow.own A c ty;rcases hrow.own.2 with ⟨hv, h0⟩ | ⟨g, cap, cur, hv, _⟩
  ·refine ⟨none, 0, w, fun ty => ?_, ?_, fun _ _ h _ => h⟩
   ·rw [hv] at hc0; rw [hv, h0]; exact hc0 ty
   ·rw [hv] at hrow; rw [List.append_nil, h0]; exact hrow
  ·refine ⟨some ⟨g, 0, none⟩, cap, w, fun ty => ?_, ?_, fun _ _ h _ => h⟩
   ·have h2 := hc0 ty; rw [hv] at h2; rw [hv]; exact h2
   ·rw [hv] at hrow; rw [List.append_nil]; exact hrow
 ·obtain ⟨g2, rfl⟩ := hrow2.some (by omega);obtain ⟨A', c', w', h1, h2, h3, -⟩ := hrow.more (fun b h => by omega) hbase g2 0 c m its2 hm hrow2.cells (fun x hx => RepP.mono (fun b h => h.1) (fun _ _ => rfl) _ _ _ (hrow2.reps x hx)) hlen;exact ⟨A', c', w', h1, h2, grown h3⟩
def varsL (l : List Tm) : List Tm := l.flatMap varsOf
theorem qlz (l : List Tm) (k : Nat) (h : k < l.length) : varsL (l.take (k + 1)) = varsL (l.take k) ++ varsOf l[k] := by
 unfold varsL;rw [List.take_succ_eq_append_getElem h, List.flatMap_append];simp
theorem qgc : ∀ l : List Tm, (varsL l).length ≤ Tm.sizes l
 | [] => by simp [varsL]
 | t :: r => by
  have h1 := qce t;have h2 := qgc r;have e : varsL (t :: r) = varsOf t ++ varsL r := rfl;rw [e, List.length_append, Tm.sizes];omega
theorem varsL_mem {l : List Tm} {x : Tm} (h : x ∈ varsL l) : ∃ t ∈ l, x ∈ varsOf t := by
 unfold varsL at h;obtain ⟨t, h1, h2⟩ := List.mem_flatMap.1 h;exact ⟨t, h1, h2⟩
theorem qj9 {t x : Tm} (h : x ∈ varsOf t) : x.size ≤ t.size := by
 unfold varsOf at h;rw [Tm.mem_set, List.mem_filter] at h;exact Tm.mem_all_size t x h.1
theorem qi5 : ∀ {l : List Tm} {t : Tm}, t ∈ l → t.size ≤ Tm.sizes l
 | y :: r, t, h => by
  rw [Tm.sizes];rcases List.mem_cons.1 h with rfl | h
  ·omega
  ·have := qi5 h; omega
set_option maxHeartbeats 2000000 in
theorem qkd (l : List Tm) (A : Option Addr) (cap : Nat) (w : World) (B : Nat) (hB : B ≤ w.heap.size) (hn : Tm.sizes l ≤ 1000000) (hrep : RepS w (fun b => b < B) l A cap) :
  Calls Tryz.prog 52 #[.slice A l.length cap] w (qfc w B (Tm.set (varsL l))) := by
 obtain ⟨hr1, hr2, hr4⟩ := hrep;have hls := Tm.length_le_sizes l;go_enter Tryz.func52, Tryz.ntmps52
 go_wp2_with fail
 go_loopw [3, 4] (fun v i wr => ∃ (k m c : Nat) (A' : Option Addr) (its : List It), k ≤ l.length ∧ i = .int .i64 k ∧ v = .slice A' m c ∧ Hid (RowT wr w.heap.size (fun b => b < B) (.slice A' m c) its) ∧
   Hid (its.map (·.1) = varsL (l.take k)) ∧ Hid (Below w.heap.size w wr))
  (fun _ i _ => l.length - (intOf i).toNat)
 case atStart => exact ⟨0, 0, 0, none, [], Nat.zero_le _, rfl, rfl, RowT.nil _ _ _, (by show _ = _; simp [varsL]), Below.refl _ _⟩
 case round =>
  obtain ⟨k, m, c, A', its, hk, rfl, rfl, HR, HM, HBW⟩ := hrel;have htl := Tm.sizes_take_le l k;have HML : Hid (m = its.length ∧ m ≤ Tm.sizes (l.take k)) := by
   have h2 := congrArg List.length HM.out;rw [List.length_map] at h2;have h3 := qgc (l.take k);have h4 := HR.out.len;exact ⟨h4, by omega⟩
  by_cases hlt : k < l.length
  ·rcases hr4 with h | ⟨b, off, hA, hbB, hl⟩
   ·rw [h] at hlt; simp at hlt
   subst hA;have hlw : RepL wr B l b off := RepL.below hl (HBW.out.mono hB) hbB;obtain ⟨Ak, ck, h0, h1, h2, h3, h5⟩ := qao.get hlw k hlt;have hsg := Tm.sizes_get l k hlt;have hsw := HBW.out.size;have hC := rvars_any l[k] Ak ck wr B (by omega) (by omega) h5;rw [show Tm.set (l[k].all.filter fun u => u.kind == 1) = varsOf l[k] from rfl] at hC;have hvl := qce l[k];have hsn := qlz l k hlt;have hvs : Tm.sizes (l.take k) + l[k].size ≤ 2000000 := by omega
   generalize varsOf l[k] = V at *;have HSN := Lib.hid hsn;have HC := Lib.hid hC;clear h5 hlw hsn hC;simp only [Tm.val] at HC;go_wp2_with fail
   refine HC.out.mono ?_;rintro e w1 ⟨A2, c2, m2, its2, rfl, hm2, hrow2, hbel2, hmap2⟩;have hs1 := hbel2.size;have hm0 := HML.out;obtain ⟨A3, c3, w2, hap, hrow3, hg3⟩ := ql8 (HR.out.below hbel2) (by omega) (by omega) hrow2 (by omega);have hb3 : Below w.heap.size w w2 := hg3 _ _ (HBW.out.trans (hbel2.mono hsw)) (Nat.le_refl _);rw [← hm0.1] at hap hrow3;have HM3 : Hid ((its ++ its2).map (·.1) = varsL (l.take (k + 1))) := by
    show _ = _;rw [List.map_append, HM.out, hmap2, HSN.out]
   have HR3 := Lib.hid hrow3; clear hrow3;have HB3 := Lib.hid hb3; clear hb3;clear hrow2 hbel2 hmap2 hg3 hm2 hm0;go_wp2_with (at_builtin; refine qak rfl _ _ rfl rfl rfl hap ?_)
   go_roundw
   case rel => exact ⟨k + 1, _, c3, A3, _, by omega, by go_num, rfl, HR3.out, HM3.out, HB3.out⟩
   case measure => simp [intOf]; omega
  ·obtain rfl : k = l.length := by omega
   have hm : its.map (·.1) = varsL l := by rw [HM.out, List.take_length]
   have hml : m ≤ 1000000 := by have := HML.out.2; rw [List.take_length] at this; omega
   have hS := set_any its w.heap.size A' m c wr B (by have := HBW.out.size; omega) HR.out hml (fun x hx => by
    have h1 : x.1 ∈ varsL l := by rw [← hm]; exact List.mem_map_of_mem hx
    obtain ⟨t, ht, hxt⟩ := varsL_mem h1;exact Nat.le_trans (qj9 hxt) (Nat.le_trans (qi5 ht) hn))
   rw [hm] at hS;have HS := Lib.hid (hS.mono fun _ _ h => h.loosen HBW.out); clear hS hm;clear hr4;go_wp2_with fail
   refine HS.out.mono ?_;rintro e w2 ⟨A2, c2, n2, its2, rfl, hs⟩;have HS2 := Lib.hid hs; clear hs;go_wp2_with fail
   go_ret
   exact ⟨A2, c2, n2, its2, rfl, HS2.out⟩
def qdu (t u : Tm) : List ByteArray := (Tm.set (varsL [t, u])).map Tm.name
attribute [local irreducible] qa3
theorem qkb (t u : Tm) : ∀ x, x ∈ qdu t u ↔ x ∈ (qdr t u).map Tm.name := fun x => by
 unfold qdu qdr;simp only [List.mem_map, Tm.mem_set, varsL, List.flatMap_cons, List.flatMap_nil, List.append_nil]
set_option linter.unusedSimpArgs false in
set_option linter.unusedVariables false in
set_option maxHeartbeats 4000000 in
theorem qi9 (t u : Tm) (T U : Option Addr) (ct cu : Nat) (w : World) (ht : t.size ≤ 1000000) (hu : u.size ≤ 1000000) (hrt : RepT w w.heap.size t T ct) (hru : RepT w w.heap.size u U cu) :
  Calls Tryz.prog 26 #[t.val T ct, u.val U cu] w (Genl (genR t u) w) := by
 obtain ⟨V, hV⟩ : ∃ V, V = ((w.alloc (boxT t T ct)).alloc (boxT u U cu)).alloc (.cells #[.int .i64 0, .string ⟨#[]⟩, .int .i64 0, .slice none 0 0] 24) := ⟨_, rfl⟩;have h3 : Box3 w (boxT t T ct) (boxT u U cu) (.cells #[.int .i64 0, .string ⟨#[]⟩, .int .i64 0, .slice none 0 0] 24 (0, 0)) V := by
  rw [hV]; exact Box3.new w _ _ _ (fun W => heap_alloc_new _ _) (fun W => heap_alloc_new _ _) (fun W => heap_alloc_new _ _)
 have hup : ∀ (Z : World) (y : Tm) (Y : Option Addr) (cy : Nat), Below w.heap.size w Z → RepT w w.heap.size y Y cy → RepT Z Z.heap.size y Y cy := fun Z y Y cy hZ h => h.go hZ hZ.size;have VV := both_any t u T U ct cu V ht hu (hup V _ _ _ h3.bel hrt) (hup V _ _ _ h3.bel hru);obtain ⟨v2, hv2⟩ : ∃ v, v = qbd t u := ⟨_, rfl⟩;obtain ⟨r, hr⟩ : ∃ r, r = genR t u := ⟨_, rfl⟩;rw [← hr];unfold genR at hr;rw [← hv2] at VV hr;have HR := Lib.hid hr; clear hr;have HV2 := Lib.hid hv2; clear hv2;have H3 := Lib.hid h3; clear h3;have HUP := Lib.hid hup; clear hup;have HRT := Lib.hid hrt; clear hrt;have HRU := Lib.hid hru; clear hru;simp only [boxT] at hV;have HV := Lib.hid hV; clear hV;obtain ⟨a0, a1, a2, a3, -⟩ := qam t (H3.out.one);obtain ⟨b0, b1, b2, b3, -⟩ := qam u (H3.out.two);simp only [Tm.val] at VV ⊢;have VV := Lib.hid VV
 go_enter Tryz.func26, Tryz.ntmps26
 go_wp2_with fail
 rw [← HV.out]
 try go_wp2_with fail
 refine VV.out.mono ?_; clear VV a0 a1 a2 a3 b0 b1 b2 b3;rintro e w1 ⟨rfl, hl1⟩;have H4 := Lib.hid (H3.out.go hl1.below); clear H3 hl1;obtain ⟨z0, z1, z2, z3, zf⟩ := qad H4.out.three;rcases eq_facts v2 0 with ⟨e0, e1, n1⟩ | ⟨e0, e1, n1⟩
 rotate_left
 ·have hr := HR.out.trans (if_pos e0);have HR2 := Lib.hid hr; clear HR hr;go_wp2_with fail
  refine bodyPost_ret (v := .tuple #[.agg #[.int .i64 0, .string ⟨#[]⟩, .int .i64 0, .slice none 0 0], .int .i64 v2]) ?_ rfl ?_
  ·simp [results, Tryz.results26, go_sem, z0, z1, z2, z3]
  rw [HR2.out];exact qe6 (r := (.mk 0 ⟨#[]⟩ 0 [], v2)) (A := none) (c := 0) H4.out.bel (by omega) (qf1 _ _ _ (Nat.zero_le _))
 have hvt := qdf (HV2.out.symm.trans e0);have hr := HR.out.trans (if_neg (by simpa using e0));have HR2 := Lib.hid hr; clear HR hr;clear e0;have hlt4 := H4.out.lt;clear z0 z1 z2 z3 zf;obtain ⟨a0, a1, a2, a3, -⟩ := qam t (H4.out.one);obtain ⟨b0, b1, b2, b3, -⟩ := qam u (H4.out.two);obtain ⟨Z, hZ⟩ : ∃ Z, Z = w1.alloc (.cells (itCells [(t, T, ct), (u, U, cu)]).toArray 24) := ⟨_, rfl⟩;obtain ⟨hS, hbZ⟩ := qgf [(t, T, ct), (u, U, cu)] hZ (by simp) (fun x hx => by
  simp only [List.mem_cons, List.not_mem_nil, or_false] at hx;rcases hx with rfl | rfl
  ·exact HUP.out w1 _ _ _ H4.out.bel HRT.out
  ·exact HUP.out w1 _ _ _ H4.out.bel HRU.out)
 have ht4 := qah hvt.1;have hu4 := qah hvt.2;have VO := Lib.hid (qkd [t, u] _ 2 Z Z.heap.size (Nat.le_refl _) (by simp only [Tm.sizes]; omega) hS);have H5 := Lib.hid (H4.out.go hbZ);simp only [itCells, Tm.cells, List.cons_append, List.nil_append] at hZ;have HZ := Lib.hid hZ;clear hS hZ hbZ;go_wp2_with fail
 rw [← HZ.out];refine VO.out.mono ?_; clear VO a0 a1 a2 a3 b0 b1 b2 b3;rintro e w8 ⟨A8, c8, n8, its8, rfl, rfl, hr8, hb8, his8⟩;have H6 := Lib.hid (H5.out.go hb8); clear H4 H5 HZ;obtain ⟨A9, c9, hv9, hS8⟩ := hr8.toS (P := fun b => b < w8.heap.size) (fun b _ h => h) (fun b _ h => h);injection hv9 with g1 g2 g3;subst g1 g3;rw [his8] at hS8;obtain ⟨Lv, hLv⟩ : ∃ Lv, Lv = Tm.set (varsL [t, u]) := ⟨_, rfl⟩;rw [← hLv] at hS8 his8;rw [← hLv];have hln : its8.length = Lv.length := by rw [← his8, List.length_map]
 have hLl : Lv.length ≤ 800 := by
  rw [hLv];have k1 := Tm.set_length (varsL [t, u]);have k2 := qgc [t, u];simp only [Tm.sizes] at k2;omega
 obtain ⟨gb, hgb⟩ : ∃ gb, gb = w8.heap.size := ⟨_, rfl⟩;have hlt8 := H6.out.lt;have hgw3 : w.heap.size + 3 ≤ gb := by omega
 obtain ⟨W9, hW9⟩ : ∃ W9, W9 = w8.alloc (.cells #[.slice A8 Lv.length c8, .int .i64 0, .slice none 0 0, .slice none 0 0] 77) := ⟨_, rfl⟩;have hb9 : Below w8.heap.size w8 W9 := by rw [hW9]; exact qaf (Nat.le_refl _) _
 have hc9 : W9.heap[gb]? = some (qme ⟨Lv, A8, c8⟩ 0 (.slice none 0 0) (.slice none 0 0)) := by
  rw [hW9, hgb]; unfold qme; exact heap_alloc_new _ _
 have hs9 : W9.heap.size = gb + 1 := by rw [hW9, hgb]; simp
 have H9 := Lib.hid (H6.out.go hb9); clear H6;have hgen : RGAt gb (gb - 1) ⟨Lv, A8, c8⟩ w.heap.size (qdu t u) gs0 none 0 none 0 [] [] W9 :=
  ⟨hc9, ⟨RepS.mono (fun b (h : b < w8.heap.size) => by omega) (fun p hp => hb9.cell hp) hS8, by unfold qdu; rw [hLv], by omega⟩, RowG.nil _ _ _ _, RowT.nil _ _ _, rfl, rfl, by simp, fun b e => by cases e⟩
 have hNl : (qdu t u).length ≤ 800 := by unfold qdu; rw [List.length_map, ← hLv]; exact hLl
 have OF := rof_any gb (gb - 1) ⟨Lv, A8, c8⟩ w.heap.size (qdu t u) w 1000000 (by omega) (by omega) (by omega) (Nat.le_refl _) t.size t u T U ct cu gs0 none 0 none 0 [] [] W9 (Nat.le_refl _) hvt.1 hvt.2 (qeh _)
  (by
   show ((qdu t u).length + 1) * (0 + t.size) < 1000000;have : ((qdu t u).length + 1) * (0 + t.size) ≤ 801 * 400 := Nat.mul_le_mul (by omega) (by omega);omega) (by show 0 + t.size ≤ _; omega) (fun p hp => by cases hp) hgen H9.out.bel (RepP.mono (fun _ h => h) (fun p (hp : p.block < w.heap.size) => H9.out.bel.cell hp) _ _ _ HRT.out) (RepP.mono (fun _ h => h) (fun p (hp : p.block < w.heap.size) => H9.out.bel.cell hp) _ _ _ HRU.out)
 have hge : (t.gen (qdu t u) u gs0).1 = genE t u := by rw [qgv (qkb t u)]; exact qhv t u
 obtain ⟨q, hq⟩ : ∃ q, q = t.gen (qdu t u) u gs0 := ⟨_, rfl⟩;rw [← hq] at OF hge;obtain ⟨q1, q2⟩ := q;change q1 = genE t u at hge;rw [← hge] at HR2;simp only [Tm.val] at OF;have OF := Lib.hid OF;have HW9 := Lib.hid hW9;have HGB := Lib.hid hgb;obtain ⟨a0, a1, a2, a3, -⟩ := qam t (H9.out.one);obtain ⟨b0, b1, b2, b3, -⟩ := qam u (H9.out.two);clear hq hge hgen hgb hW9 hc9 hb9 hln his8 hS8 hb8 hr8 hLv g2 hvt;go_upto_region 5 with fail
 rw [← HW9.out, ← HGB.out];go_wp2_with fail
 refine OF.out.mono ?_; clear OF a0 a1 a2 a3 b0 b1 b2 b3;rintro e w9 ⟨A9, c9, PA', Pc', VA', Vc', its', vts', rfl, hof⟩;have h39 := (hof.old (w.heap.size + 1 + 1) (by omega) (by omega) (fun e => by cases e) (fun e => by cases e)).trans H9.out.three;obtain ⟨f0, f1, f2, f3, ff⟩ := qad h39;have hs99 := hof.size;have hb99 : Below w.heap.size w w9 := H9.out.bel.trans (hof.bel.mono (by omega));have hr9 : RepP w9 (fun b => b < w9.heap.size ∧ b ≠ w.heap.size + 1 + 1) q1 A9 c9 := RepP.mono (fun b h => by
  rcases h with h | ⟨h1, h2, -⟩
  ·exact ⟨by omega, by omega⟩
  ·exact ⟨h2, by omega⟩) (fun _ _ => rfl) _ _ _ hof.rep
 have HB9 := Lib.hid hb99; clear hb99 hof;have HR9 := Lib.hid hr9; clear hr9;simp only [Tm.val];go_wp2_with fail
 refine bodyPost_ret (v := .tuple #[.agg #[.int .i64 q1.kind, .string q1.name, .int .i64 q1.sort, .slice A9 q1.kids.length c9], .int .i64 0]) ?_ rfl ?_
 ·simp [results, Tryz.results26, go_sem, f0, f1, f2, f3]
 rw [HR2.out];exact qe6 (r := (q1, 0)) HB9.out (by omega) HR9.out
end Go.Proofs.YtpjmdilpldaapaaGreatDoor
namespace Go.Proofs.YtpjmdilpldaapaaGreatDoor
mutual
def Tm.ren (f : ByteArray → Int → ByteArray) : Tm → Tm
 | .mk k n s l => .mk k (if k = 1 then f n s else n) s (Tm.rens f l)
def Tm.rens (f : ByteArray → Int → ByteArray) : List Tm → List Tm
 | [] => []
 | t :: r => Tm.ren f t :: Tm.rens f r
end
theorem rens_eq (f : ByteArray → Int → ByteArray) : ∀ l, Tm.rens f l = l.map (Tm.ren f)
 | [] => rfl
 | t :: r => by rw [Tm.rens, rens_eq f r, List.map_cons]
theorem qeo (f : ByteArray → Int → ByteArray) (l : List Tm) : (Tm.rens f l).length = l.length := by rw [rens_eq, List.length_map]
theorem qbx (f : ByteArray → Int → ByteArray) (t : Tm) : (t.ren f).kind = t.kind := by cases t; rw [Tm.ren]; rfl
theorem qd7 (f : ByteArray → Int → ByteArray) (t : Tm) : (t.ren f).sort = t.sort := by cases t; rw [Tm.ren]; rfl
theorem qle (f : ByteArray → Int → ByteArray) (t : Tm) : (t.ren f).kids = Tm.rens f t.kids := by cases t; rw [Tm.ren]; rfl
theorem qld (f : ByteArray → Int → ByteArray) (t : Tm) : (t.ren f).name = if t.kind = 1 then f t.name t.sort else t.name := by cases t; rw [Tm.ren]; rfl
mutual
theorem qk3 (f : ByteArray → Int → ByteArray) : ∀ t : Tm, (t.ren f).size = t.size
 | .mk k n s l => by rw [Tm.ren, Tm.size, Tm.size, qi4 f l]
theorem qi4 (f : ByteArray → Int → ByteArray) : ∀ l : List Tm, Tm.sizes (Tm.rens f l) = Tm.sizes l
 | [] => rfl
 | t :: r => by rw [Tm.rens, Tm.sizes, Tm.sizes, qk3 f t, qi4 f r]
end
mutual
theorem qj0 (f : ByteArray → Int → ByteArray) : ∀ t : Tm, (t.ren f).depth = t.depth
 | .mk k n s l => by rw [Tm.ren, Tm.depth, Tm.depth, qhy f l]
theorem qhy (f : ByteArray → Int → ByteArray) : ∀ l : List Tm, Tm.depths (Tm.rens f l) = Tm.depths l
 | [] => rfl
 | t :: r => by rw [Tm.rens, Tm.depths, Tm.depths, qj0 f t, qhy f r]
end
mutual
theorem all_ren (f : ByteArray → Int → ByteArray) : ∀ t : Tm, (t.ren f).all = t.all.map (Tm.ren f)
 | .mk k n s l => by
  have h := qlw f l;have e : Tm.ren f (.mk k n s l) = .mk k (if k = 1 then f n s else n) s (Tm.rens f l) := by rw [Tm.ren]
  rw [Tm.all, List.map_cons, e, Tm.all, h]
theorem qlw (f : ByteArray → Int → ByteArray) : ∀ l : List Tm, Tm.alls (Tm.rens f l) = (Tm.alls l).map (Tm.ren f)
 | [] => rfl
 | t :: r => by rw [Tm.rens, Tm.alls, Tm.alls, List.map_append, all_ren f t, qlw f r]
end
def InV (V : Tm → Prop) (t : Tm) : Prop := ∀ y ∈ t.all, y.kind = 1 → V y
theorem InV.kid {V : Tm → Prop} {t k : Tm} (h : InV V t) (hk : k ∈ t.kids) : InV V k := fun y hy hk1 => h y (qcz hk hy) hk1
structure RenV (f : ByteArray → Int → ByteArray) (V : Tm → Prop) : Prop where
 var : ∀ y, V y → y.kind = 1 ∧ y.kids = []
 inj : ∀ y z, V y → V z → y.ren f = z.ren f → y = z
 nm : ∀ y, V y → qco (f y.name y.sort).data.toList = true
section
variable {f : ByteArray → Int → ByteArray} {V : Tm → Prop}
mutual
theorem qj3 (hv : RenV f V) : ∀ t : Tm, t.check = 0 → InV V t → (t.ren f).check = 0
 | .mk k n s l, h, hV => by
  rw [Tm.ren];by_cases hk : k = 1
  ·subst hk;have hn := hv.nm _ (hV _ (mem_self _) rfl);have hn1 : qco (f n s).data.toList = true := hn;clear hn;rcases qc4 h with ⟨-, rfl⟩ | ⟨h3, -, -⟩
   ·rw [Tm.check, if_pos (.inl rfl)] at h ⊢;rw [if_pos rfl]
    split at h
    ·omega
    ·rename_i g
     rw [if_neg (by simpa [Tm.rens] using g), if_neg (by rw [hn1]; simp)]
   ·omega
  ·rw [if_neg hk];rcases qc4 h with ⟨-, rfl⟩ | ⟨h3, h4, h5⟩
   ·exact h
   ·subst h3;have h6 := qh1 hv l h5 fun k hk y hy hk1 => hV y (by rw [Tm.all]; exact List.mem_cons_of_mem _ (qdh.2 ⟨k, hk, hy⟩)) hk1;rw [Tm.check] at h ⊢;rw [qeo];rw [if_neg (by omega), if_pos rfl] at h ⊢
    split at h
    ·omega
    ·split at h
     ·omega
     ·split at h
      ·omega
      ·rename_i g1 g2 g3
       rw [if_neg g1, if_neg g2, if_neg g3]; exact h6
theorem qh1 (hv : RenV f V) : ∀ l : List Tm, Tm.checks l = 0 → (∀ k ∈ l, InV V k) → Tm.checks (Tm.rens f l) = 0
 | [], _, _ => rfl
 | t :: r, h, hV => by
  obtain ⟨h1, h2⟩ := qcn h;rw [Tm.rens, Tm.checks, if_neg (by simpa using qj3 hv t h1 (hV t (List.mem_cons_self ..)))];exact qh1 hv r h2 fun k hk => hV k (List.mem_cons_of_mem _ hk)
end
theorem qi0 (hv : RenV f V) {t : Tm} (h : t.check = 0) (hV : InV V t) : (t.ren f).valid = 0 ↔ t.valid = 0 := by
 rw [qay, qay, qk3, qj0];exact ⟨fun g => ⟨h, g.2⟩, fun g => ⟨qj3 hv t h hV, g.2⟩⟩
mutual
theorem ren_inj (hv : RenV f V) : ∀ t u : Tm, InV V t → InV V u → t.ren f = u.ren f → t = u
 | .mk k n s l, .mk k' n' s' l', hV, hV', e => by
  have hkk : k = k' := by have := congrArg Tm.kind e; rw [qbx, qbx] at this; exact this
  by_cases hk : k = 1
  ·exact hv.inj _ _ (hV _ (mem_self _) hk) (hV' _ (mem_self _) (by show k' = 1; omega)) e
  ·rw [Tm.ren, Tm.ren, if_neg hk, if_neg (by omega)] at e;injection e with e1 e2 e3 e4;have h := qlc hv l l' (fun k hk => hV.kid hk) (fun k hk => hV'.kid hk) e4;rw [e1, e2, e3, h]
theorem qlc (hv : RenV f V) : ∀ l m : List Tm, (∀ k ∈ l, InV V k) → (∀ k ∈ m, InV V k) → Tm.rens f l = Tm.rens f m → l = m
 | [], [], _, _, _ => rfl
 | [], _ :: _, _, _, e => by rw [Tm.rens, Tm.rens] at e; cases e
 | _ :: _, [], _, _, e => by rw [Tm.rens, Tm.rens] at e; cases e
 | t :: l, u :: m, h1, h2, e => by
  rw [Tm.rens, Tm.rens] at e;injection e with e1 e2;rw [ren_inj hv t u (h1 t (List.mem_cons_self ..)) (h2 u (List.mem_cons_self ..)) e1, qlc hv l m (fun k hk => h1 k (List.mem_cons_of_mem _ hk)) (fun k hk => h2 k (List.mem_cons_of_mem _ hk)) e2]
end
mutual
theorem qki (g : ByteArray → Int → ByteArray) {x t x' t' : Tm} (H : ∀ y, V y → (if x = y then t else y).ren g = if x' = y.ren f then t' else y.ren f) :
  ∀ p : Tm, InV V p → (p.put [(x, t)]).ren g = (p.ren f).put [(x', t')]
 | .mk k n s l, hV => by
  by_cases hk : k = 1
  ·rw [put_var (x := .mk k n s l) hk, put_var (x := (Tm.mk k n s l).ren f) (by rw [qbx]; exact hk)];simp only [getS];exact H _ (hV _ (mem_self _) hk)
  ·rw [qic, if_neg hk, Tm.ren, Tm.ren, if_neg hk, if_neg hk, qic, if_neg hk, qlf g H l fun k hk => hV.kid hk]
theorem qlf (g : ByteArray → Int → ByteArray) {x t x' t' : Tm} (H : ∀ y, V y → (if x = y then t else y).ren g = if x' = y.ren f then t' else y.ren f) :
  ∀ l : List Tm, (∀ k ∈ l, InV V k) → Tm.rens g (Tm.puts [(x, t)] l) = Tm.puts [(x', t')] (Tm.rens f l)
 | [], _ => rfl
 | p :: r, h => by rw [Tm.puts, Tm.rens, Tm.rens, Tm.puts, qki g H p (h p (List.mem_cons_self ..)), qlf g H r fun k hk => h k (List.mem_cons_of_mem _ hk)]
end
theorem occT_ren (hv : RenV f V) {x t : Tm} (hx : V x) (hV : InV V t) : occT (x.ren f) (t.ren f) = occT x t := by
 unfold occT;rw [Bool.eq_iff_iff, decide_eq_true_iff, decide_eq_true_iff, all_ren, List.mem_map];constructor
 ·rintro ⟨y, hy, e⟩;have hk := congrArg Tm.kind e;rw [qbx, qbx, (hv.var x hx).1] at hk;rw [← hv.inj y x (hV y hy hk) hx e]; exact hy
 ·exact fun h => ⟨x, h, rfl⟩
theorem qf5 (x t : Tm) : (oneU x t).1 = x ∧ (oneU x t).2.1 = t := by
 unfold oneU; split
 ·exact ⟨rfl, rfl⟩
 ·split <;> exact ⟨rfl, rfl⟩
theorem oneU_ren (hv : RenV f V) {x t : Tm} (hx : x.valid = 0) (ht : t.valid = 0) (hk : x.kind = 1) (hVx : InV V x) (hVt : InV V t) : (oneU (x.ren f) (t.ren f)).2.2 = (oneU x t).2.2 := by
 have h1 : fits (x.ren f) (t.ren f) = fits x t := by
  unfold fits;rw [(qi0 hv (check_valid hx) hVx).2 hx, (qi0 hv (check_valid ht) hVt).2 ht, hx, ht, qbx, qbx, qd7, qd7]
 unfold oneU;rw [h1, occT_ren hv (hVx _ (mem_self _) hk) hVt]
 split
 ·rfl
 ·split <;> rfl
theorem alike_ren (f : ByteArray → Int → ByteArray) (a b : Tm) : qa1 (a.ren f) (b.ren f) = qa1 a b := by
 rw [Bool.eq_iff_iff, qa0, qa0, qbx, qbx, qld, qld, qle, qle, qeo, qeo];constructor
 ·rintro ⟨h1, h2, h3, h4⟩;rw [if_neg (by omega), if_neg (by omega)] at h3;exact ⟨h1, h2, h3, h4⟩
 ·rintro ⟨h1, h2, h3, h4⟩;refine ⟨h1, h2, ?_, h4⟩;rw [if_neg (by omega), if_neg (by omega)]; exact h3
theorem alike_symm (a b : Tm) : qa1 a b = qa1 b a := by
 rw [Bool.eq_iff_iff, qa0, qa0];exact ⟨fun ⟨a, b, c, d⟩ => ⟨b, a, c.symm, d.symm⟩, fun ⟨a, b, c, d⟩ => ⟨b, a, c.symm, d.symm⟩⟩
def swP (sw : Bool) (p : Bd) : Bd := if sw = true then (p.2, p.1) else p
def renP (f : ByteArray → Int → ByteArray) (p : Bd) : Bd := (p.1.ren f, p.2.ren f)
def ChoR (f : ByteArray → Int → ByteArray) (c c' : Tm × Tm × Int) : Prop :=
 c'.2.2 = c.2.2 ∧ (c.2.2 = 0 → (c'.1 = c.1.ren f ∧ c'.2.1 = c.2.1.ren f) ∨ (c'.1 = c.2.1.ren f ∧ c'.2.1 = c.1.ren f ∧ c.1.kind = 1 ∧ c.2.1.kind = 1 ∧ c.1.sort = c.2.1.sort))
theorem choose_ren (hv : RenV f V) {a b : Tm} (ha : a.valid = 0) (hb : b.valid = 0) (hA : InV V a) (hB : InV V b) (sw : Bool) :
  ChoR f (qav a b) (qav (swP sw (renP f (a, b))).1 (swP sw (renP f (a, b))).2) := by
 have one : ∀ x t : Tm, x.valid = 0 → t.valid = 0 → x.kind = 1 → InV V x → InV V t → ChoR f (oneU x t) (oneU (x.ren f) (t.ren f)) := fun x t h1 h2 h3 h4 h5 =>
  ⟨oneU_ren hv h1 h2 h3 h4 h5, fun _ => .inl ⟨by rw [(qf5 _ _).1, (qf5 _ _).1], by rw [(qf5 _ _).2, (qf5 _ _).2]⟩⟩
 cases sw with
 | false =>
  show ChoR f (qav a b) (qav (a.ren f) (b.ren f));unfold qav;rw [qbx, qbx, qd7, qd7];by_cases ka : a.kind = 1
  ·by_cases kb : b.kind = 1
   ·rw [if_pos ka, if_pos kb, if_pos ka, if_pos kb];by_cases hs : a.sort = b.sort
    ·rw [if_pos hs, if_pos hs]
     split <;> split
     ·exact ⟨rfl, fun _ => .inl ⟨rfl, rfl⟩⟩
     ·exact ⟨rfl, fun _ => .inr ⟨rfl, rfl, kb, ka, hs.symm⟩⟩
     ·exact ⟨rfl, fun _ => .inr ⟨rfl, rfl, ka, kb, hs⟩⟩
     ·exact ⟨rfl, fun _ => .inl ⟨rfl, rfl⟩⟩
    ·rw [if_neg hs, if_neg hs];by_cases h0 : b.sort = 0
     ·rw [if_pos h0, if_pos h0]; exact ⟨rfl, fun _ => .inl ⟨rfl, rfl⟩⟩
     ·rw [if_neg h0, if_neg h0];by_cases h1 : a.sort = 0
      ·rw [if_pos h1, if_pos h1]; exact ⟨rfl, fun _ => .inl ⟨rfl, rfl⟩⟩
      ·rw [if_neg h1, if_neg h1]; exact ⟨rfl, fun h => absurd (show (11 : Int) = 0 from h) (by decide)⟩
   ·rw [if_pos ka, if_neg kb, if_pos ka, if_neg kb]; exact one a b ha hb ka hA hB
  ·rw [if_neg ka, if_neg ka];by_cases kb : b.kind = 1
   ·rw [if_pos kb, if_pos kb]; exact one b a hb ha kb hB hA
   ·rw [if_neg kb, if_neg kb]; exact ⟨rfl, fun h => absurd (show (11 : Int) = 0 from h) (by decide)⟩
 | true =>
  show ChoR f (qav a b) (qav (b.ren f) (a.ren f));unfold qav;rw [qbx, qbx, qd7, qd7];by_cases ka : a.kind = 1
  ·by_cases kb : b.kind = 1
   ·rw [if_pos ka, if_pos kb, if_pos ka, if_pos kb];by_cases hs : a.sort = b.sort
    ·rw [if_pos hs, if_pos hs.symm]
     split <;> split
     ·exact ⟨rfl, fun _ => .inr ⟨rfl, rfl, kb, ka, hs.symm⟩⟩
     ·exact ⟨rfl, fun _ => .inl ⟨rfl, rfl⟩⟩
     ·exact ⟨rfl, fun _ => .inl ⟨rfl, rfl⟩⟩
     ·exact ⟨rfl, fun _ => .inr ⟨rfl, rfl, ka, kb, hs⟩⟩
    ·have hs' : ¬ b.sort = a.sort := fun e => hs e.symm;rw [if_neg hs, if_neg hs'];by_cases h0 : b.sort = 0
     ·have h1 : a.sort ≠ 0 := by omega
      rw [if_pos h0, if_neg h1, if_pos h0]; exact ⟨rfl, fun _ => .inl ⟨rfl, rfl⟩⟩
     ·rw [if_neg h0];by_cases h1 : a.sort = 0
      ·rw [if_pos h1, if_pos h1]; exact ⟨rfl, fun _ => .inl ⟨rfl, rfl⟩⟩
      ·rw [if_neg h1, if_neg h1, if_neg h0]; exact ⟨rfl, fun h => absurd (show (11 : Int) = 0 from h) (by decide)⟩
   ·rw [if_pos ka, if_neg kb, if_neg kb, if_pos ka]; exact one a b ha hb ka hA hB
  ·rw [if_neg ka];by_cases kb : b.kind = 1
   ·rw [if_pos kb, if_pos kb, if_neg ka]; exact one b a hb ha kb hB hA
   ·rw [if_neg kb, if_neg kb, if_neg ka]; exact ⟨rfl, fun h => absurd (show (11 : Int) = 0 from h) (by decide)⟩
theorem var_ext {y z : Tm} (hy : y.kind = 1 ∧ y.kids = []) (hz : z.kind = 1 ∧ z.kids = []) (hn : y.name = z.name) (hs : y.sort = z.sort) : y = z := by
 obtain ⟨y1, y2, y3, y4⟩ := y;obtain ⟨z1, z2, z3, z4⟩ := z;simp only [Tm.kind, Tm.kids, Tm.name, Tm.sort] at *;rw [hy.1, hy.2, hz.1, hz.2, hn, hs]
theorem bind_ren (hv : RenV f V) {x t x' t' : Tm} (hx : V x) (ht : InV V t) (hxt : x ∉ t.all)
  (h : (x' = x.ren f ∧ t' = t.ren f) ∨ (x' = t.ren f ∧ t' = x.ren f ∧ x.kind = 1 ∧ t.kind = 1 ∧ x.sort = t.sort)) :
  ∃ g, RenV g (fun y => V y ∧ y ≠ x) ∧ t' = t.ren g ∧ ∀ p, InV V p → (p.put [(x, t)]).ren g = (p.ren f).put [(x', t')] := by
 rcases h with ⟨rfl, rfl⟩ | ⟨rfl, rfl, hk, htk, hso⟩
 ·refine ⟨f, ⟨fun y h => hv.var y h.1, fun y z h h' => hv.inj y z h.1 h'.1, fun y h => hv.nm y h.1⟩, rfl, fun p hp => qki f (fun y hy => ?_) p hp⟩;by_cases e : x = y
  ·rw [if_pos e, if_pos (by rw [e])]
  ·rw [if_neg e, if_neg (fun e' => e (hv.inj x y hx hy e'))]
 ·have hVt : V t := ht t (mem_self _) htk;have hne : x ≠ t := fun e => hxt (e ▸ mem_self _);obtain ⟨g, hg⟩ : ∃ g : ByteArray → Int → ByteArray, g = fun n s => if n = t.name ∧ s = t.sort then f x.name x.sort else f n s := ⟨_, rfl⟩
  have hy : ∀ y, V y → y.ren g = if y = t then x.ren f else y.ren f := fun y hy => by
   have gk := hv.var y hy;have e1 : ∀ (F : ByteArray → Int → ByteArray) (z : Tm), V z → z.ren F = .mk 1 (F z.name z.sort) z.sort [] := fun F z hz => by
    obtain ⟨z1, z2, z3, z4⟩ := z;have := hv.var _ hz;simp only [Tm.kind, Tm.kids] at this;rw [this.1, this.2, Tm.ren, if_pos rfl]; rfl
   rw [e1 _ y hy, e1 _ x hx, hg];by_cases e : y = t
   ·rw [if_pos e, e]; simp only [and_self, if_true]; rw [hso]
   ·rw [if_neg e, e1 _ y hy];dsimp only;rw [if_neg (fun h => e (var_ext gk (hv.var t hVt) h.1 h.2))]
  refine ⟨g, ⟨fun y h => hv.var y h.1, fun y z h h' e => ?_, fun y h => ?_⟩, by rw [hy t hVt, if_pos rfl], fun p hp => qki g (fun y hVy => ?_) p hp⟩
  ·rw [hy y h.1, hy z h'.1] at e;by_cases h1 : y = t
   ·by_cases h2 : z = t
    ·rw [h1, h2]
    ·rw [if_pos h1, if_neg h2] at e;exact absurd (hv.inj x z hx h'.1 e).symm h'.2
   ·by_cases h2 : z = t
    ·rw [if_neg h1, if_pos h2] at e;exact absurd (hv.inj y x h.1 hx e) h.2
    ·rw [if_neg h1, if_neg h2] at e;exact hv.inj y z h.1 h'.1 e
  ·rw [hg]; dsimp only
   split
   ·exact hv.nm x hx
   ·exact hv.nm y h.1
  ·by_cases e : x = y
   ·subst e;rw [if_pos rfl, if_neg (fun e' => hne (hv.inj t x hVt hx e').symm), hy t hVt, if_pos rfl]
   ·rw [if_neg e, hy y hVy];by_cases e2 : y = t
    ·rw [if_pos e2, if_pos (by rw [e2])]
    ·rw [if_neg e2, if_neg (fun e' => e2 (hv.inj t y hVt hVy e').symm)]
theorem inV_put {x t : Tm} (_hx : x.kind = 1) (hxt : x ∉ t.all) (ht : InV V t) {p : Tm} (hc : p.check = 0) (hp : InV V p) : InV (fun y => V y ∧ y ≠ x) (p.put [(x, t)]) := fun y hy hk => by
 rcases qgm hk p hc hy with ⟨h1, h2⟩ | h1
 ·exact ⟨hp y h1 hk, h2⟩
 ·exact ⟨ht y h1 hk, fun e => hxt (e ▸ h1)⟩
end
structure SimU (V : Tm → Prop) (f : ByteArray → Int → ByteArray) (sw : Bool) (ps bs ps' bs' : List Bd) : Prop where
 ren : RenV f V
 pairs : ps' = ps.map (fun p => swP sw (renP f p))
 binds : bs'.map (·.2) = bs.map (fun b => b.2.ren f)
 vp : ∀ p ∈ ps, InV V p.1 ∧ InV V p.2
 vb : ∀ b ∈ bs, InV V b.2
end Go.Proofs.YtpjmdilpldaapaaGreatDoor
namespace Go.Proofs.YtpjmdilpldaapaaGreatDoor
open Go.RowKit Go.Sort Go.Maps
structure ApAt (w : World) (mb nn base lb : Nat) (m : List Bd) (o1 o2 : Obj) (L : List Tm) (AL : Option Addr) (cL : Nat) (itsL : List It) (Z : World) : Prop where
 map : MapT Z mb nn (fun b => b < w.heap.size) m
 b1 : Z.heap[w.heap.size]? = some o1
 b2 : Z.heap[w.heap.size + 1]? = some o2
 row : RowT Z lb (fun _ => False) (.slice AL L.length cL) itsL
 is : itsL.map (·.1) = L
 bel : Below w.heap.size w Z
 own : ∀ k, (Value.slice AL L.length cL).ownBlock = some k → k < base ∧ k ≠ mb
 mlt : mb < base
 mw : w.heap.size + 2 ≤ mb
 bs : base ≤ Z.heap.size
section
variable {w Z Z' : World} {mb nn nn' base lb cL : Nat} {m m' : List Bd} {o1 o2 : Obj} {L : List Tm} {AL : Option Addr} {itsL : List It}
theorem ApAt.go (h : ApAt w mb nn base lb m o1 o2 L AL cL itsL Z) (hb : Below Z.heap.size Z Z') : ApAt w mb nn base lb m o1 o2 L AL cL itsL Z' := by
 have hm := h.map.lt;have h1 := h.mw;have h2 := h.mlt;have h3 := h.bs;have h4 := hb.size;exact ⟨h.map.keep (hb.block _ hm) (fun p (hp : p.block < w.heap.size) => hb.cell (by omega)), (hb.block _ (by omega)).trans h.b1, (hb.block _ (by omega)).trans h.b2, qbb h.row hb.size (fun k e => hb.block _ (by have := (h.own k e).1; omega)) (fun _ hf => False.elim hf), h.is, h.bel.trans (hb.mono (by omega)), h.own, h.mlt, h.mw, by omega⟩
theorem ApAt.turn (h : ApAt w mb nn base lb m o1 o2 L AL cL itsL Z) (hm : MapT Z' mb nn' (fun b => b < w.heap.size) m') (ht : Z.mapTurned Z' mb) : ApAt w mb nn' base lb m' o1 o2 L AL cL itsL Z' := by
 have hk : ∀ j, j < Z.heap.size → j ≠ mb → Z'.heap[j]? = Z.heap[j]? := fun j hj hne => ht.grown.block j hj (fun e => by injection e with e; exact hne e);have h1 := h.mw;have h2 := h.mlt;have h3 := h.bs;have h4 := ht.grown.size;exact ⟨hm, (hk _ (by omega) (by omega)).trans h.b1, (hk _ (by omega) (by omega)).trans h.b2, qbb h.row h4 (fun k e => hk k (by have := (h.own k e).1; omega) (h.own k e).2) (fun _ hf => False.elim hf), h.is, h.bel.grown ht.grown (by omega) (fun j e => by injection e with e; omega), h.own, h.mlt, h.mw, by omega⟩
end
attribute [local irreducible] qa3
end Go.Proofs.YtpjmdilpldaapaaGreatDoor
namespace Go.Proofs.YtpjmdilpldaapaaGreatDoor
open Go.RowKit Go.Sort
attribute [local irreducible] qa3
end Go.Proofs.YtpjmdilpldaapaaGreatDoor
namespace Go.Proofs.YtpjmdilpldaapaaGreatDoor
structure RenTab (s : List Bd) (L : List Tm) : Prop where
 leaf : ∀ x ∈ L, x.kind = 1 ∧ x.kids = []
 new : ∀ x ∈ L, (getS s x).kind = 1 ∧ (getS s x).kids = [] ∧ (getS s x).sort = x.sort ∧ qco (getS s x).name.data.toList = true
 inj : ∀ x ∈ L, ∀ y ∈ L, getS s x = getS s y → x = y
def fT (s : List Bd) (n : ByteArray) (o : Int) : ByteArray := (getS s (.mk 1 n o [])).name
theorem var_eta {x : Tm} (h : x.kind = 1 ∧ x.kids = []) : x = .mk 1 x.name x.sort [] := by
 obtain ⟨k, n, s, l⟩ := x;obtain ⟨h1, h2⟩ := h;simp only [Tm.kind, Tm.kids] at h1 h2;rw [h1, h2]; rfl
theorem RenTab.ren {s : List Bd} {L : List Tm} (h : RenTab s L) {x : Tm} (hx : x ∈ L) : x.ren (fT s) = getS s x := by
 have e := var_eta (h.leaf x hx);obtain ⟨h1, h2, h3, -⟩ := h.new x hx;have e2 := var_eta ⟨h1, h2⟩;rw [e2, h3];rw [e];rw [Tm.ren, if_pos rfl, Tm.rens];show Tm.mk 1 (getS s (.mk 1 x.name x.sort [])).name x.sort [] = _;rw [← e]
mutual
theorem qhh {s : List Bd} {f : ByteArray → Int → ByteArray} : ∀ t : Tm, t.check = 0 → (∀ x ∈ t.all, x.kind = 1 → getS s x = x.ren f) → t.put s = t.ren f
 | .mk k n so l, hc, h => by
  by_cases hk : k = 1
  ·rw [Tm.put_var s (.mk k n so l) hk];exact h _ (by rw [Tm.all]; exact List.mem_cons_self ..) hk
  ·rw [Tm.put_app s k n so l hk, Tm.ren, if_neg hk];rcases qc4 hc with ⟨-, rfl⟩ | ⟨-, -, hcl⟩
   ·rw [Tm.puts, Tm.rens]
   ·rw [qgk l hcl (fun x hx => h x (by rw [Tm.all]; exact List.mem_cons_of_mem _ hx))]
theorem qgk {s : List Bd} {f : ByteArray → Int → ByteArray} : ∀ l : List Tm, Tm.checks l = 0 → (∀ x ∈ Tm.alls l, x.kind = 1 → getS s x = x.ren f) → Tm.puts s l = Tm.rens f l
 | [], _, _ => by rw [Tm.puts, Tm.rens]
 | t :: r, hc, h => by
  obtain ⟨h1, h2⟩ := qcn hc;rw [Tm.puts, Tm.rens, qhh t h1 (fun x hx => h x (by rw [Tm.alls]; exact List.mem_append_left _ hx)), qgk r h2 (fun x hx => h x (by rw [Tm.alls]; exact List.mem_append_right _ hx))]
end
theorem RenTab.put {s : List Bd} {L : List Tm} (h : RenTab s L) {t : Tm} (hc : t.check = 0) (hV : InV (fun x => x ∈ L) t) : t.put s = t.ren (fT s) :=
 qhh t hc fun x hx hk => (h.ren (hV x hx hk)).symm
def swB (m : List Bd) : List Bd := m.map fun b => (b.2, b.1)
structure OneB (m : List Bd) : Prop where
 vars : ∀ b ∈ m, b.1.kind = 1 ∧ b.2.kind = 1 ∧ b.1.valid = 0 ∧ b.2.valid = 0 ∧ b.1.sort = b.2.sort
 one : ∀ a ∈ m, ∀ b ∈ m, a.1 = b.1 ↔ a.2 = b.2
theorem OneB.nil : OneB [] := ⟨by simp, by simp⟩
theorem OneB.swap {m : List Bd} (h : OneB m) : OneB (swB m) := by
 refine ⟨fun b hb => ?_, fun a ha b hb => ?_⟩
 ·obtain ⟨q, hq, rfl⟩ := List.mem_map.1 hb;obtain ⟨h1, h2, h3, h4, h5⟩ := h.vars q hq;exact ⟨h2, h1, h4, h3, h5.symm⟩
 ·obtain ⟨q, hq, rfl⟩ := List.mem_map.1 ha;obtain ⟨r, hr, rfl⟩ := List.mem_map.1 hb;exact (h.one q hq r hr).symm
theorem OneB.cons {m : List Bd} (h : OneB m) : consU m := fun a ha b hb e => (h.one a ha b hb).1 e
theorem OneB.fit {m : List Bd} (h : OneB m) : FitS m := fun b hb => by
 obtain ⟨h1, h2, h3, h4, h5⟩ := h.vars b hb;exact ⟨check_valid h4, .inr ⟨by omega, h5.symm⟩⟩
theorem sym2 {a b : Tm} (ha : a.valid = 0) (hb : b.valid = 0) : qbd a b = 0 := by unfold qbd; rw [if_neg (by simpa using ha)]; exact hb
theorem qfj {t c : Tm} {s : List Bd} (ht : t.valid = 0) (hc : c.valid = 0) (hf : FitS s) (he : t.put s = c) : ((qcq t c).2 == 0) = true := by
 unfold qcq;rw [if_neg (by rw [sym2 ht hc]; simp), if_pos ((mat_iff ht hc).2 ⟨s, hf, he⟩)];rfl
end Go.Proofs.YtpjmdilpldaapaaGreatDoor
