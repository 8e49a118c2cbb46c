/- Urgof (joined by shake.py). -/
import Derived.Test.YtpjmdilpldaapaaGreatDoorK12
import Derived.Test.YtpjmdilpldaapaaGreatDoorK21
set_option maxRecDepth 100000
namespace Go.Proofs.YtpjmdilpldaapaaGreatDoor
open Go.RowKit Go.Sort
section
variable {gb mb : Nat} {nn : MkV} {B : Nat} {N : List ByteArray} {g g' : Gs} {PA0 VA0 PA VA PA' VA' : Option Addr} {Pc Vc Pc' Vc' : Nat} {its its' : List IB} {vts vts' : List It} {w Z Z' : World} {o1 o2 : Obj}
theorem rrow_call {base : Nat} {v : Value} {cur : List It} (hr : RowT Z base (KidF B base PA VA) v cur) {r : Tm} {A : Option Addr} {c : Nat} (hf : ROfAt gb mb nn B N g' r A c PA VA Z PA' Pc' VA' Vc' its' vts' Z')
  (hg : gb < base) (hB : B ≤ gb) (h1 : ∀ k, v.ownBlock = some k → ownA PA ≠ some k ∧ ownA VA ≠ some k) (hP : ∀ b, ownA PA = some b → gb < b) (hV : ∀ b, ownA VA = some b → gb < b) : RowT Z' base (KidF B base PA' VA') v cur := by
 refine qbb hr hf.size (fun b e => ?_) (fun b hb hlt _ => ?_)
 ·have hk := hr.lt b e;exact hf.old _ hk.2 (by omega) (h1 b e).1 (h1 b e).2
 ·rcases hb with hb | ⟨hb, e1, e2⟩
  ·exact ⟨.inl hb, hf.old b hlt (by omega) (fun e => by have := hP b e; omega) (fun e => by have := hV b e; omega)⟩
  ·refine ⟨.inr ⟨hb, fun e => ?_, fun e => ?_⟩, hf.old b hlt (by omega) e1 e2⟩
   ·rcases hf.own1 b e with h3 | h3
    ·exact e1 h3
    ·omega
   ·rcases hf.own2 b e with h3 | h3
    ·exact e2 h3
    ·omega
theorem ROAt.other (h : ROAt gb mb nn B N g PA0 VA0 w o1 o2 PA Pc VA Vc its vts Z) (hs : Z.heap.size ≤ Z'.heap.size) (hgw : gb < w.heap.size) (hmb : mb < gb) (hB : B ≤ mb) (hbel : Below gb w Z') (hk : ∀ k, k < Z.heap.size → (k < w.heap.size + 3 ∨ ownA PA = some k ∨ ownA VA = some k) → Z'.heap[k]? = Z.heap[k]?) :
  ROAt gb mb nn B N g PA0 VA0 w o1 o2 PA Pc VA Vc its vts Z' := by
 have hl := h.lt;have hgl := h.gen.lt;refine ⟨h.gen.keep hs (fun k hlt hor => hk k hlt ?_), (hk _ (by omega) (.inl (by omega))).trans h.b1, (hk _ (by omega) (.inl (by omega))).trans h.b2, (hk _ (by omega) (.inl (by omega))).trans h.b3, hbel, fun k hlt h1 h2 h3 => (hk k (by omega) (.inl (by omega))).trans (h.old k hlt h1 h2 h3), h.own1, h.own2⟩;rcases hor with h1 | h1 | h1 | h1 | h1
 ·exact .inl (by omega)
 ·exact .inl (by omega)
 ·exact .inl (by omega)
 ·exact .inr (.inl h1)
 ·exact .inr (.inr h1)
theorem alloc_grown {W W' : World} {C : Obj} {o : Option Nat} (h : (W.alloc C).grownBy W' o) : W.heap.size ≤ W'.heap.size := by
 have := h.size;simp at this;omega
end
theorem ql7 {w : World} {base : Nat} {F : Nat → Prop} {v : Value} {its : List It} (hrow : RowT w base F v its) (hbase : base ≤ w.heap.size) (X : It) (hX : RepP w (fun b => F b ∧ b < w.heap.size ∧ v.ownBlock ≠ some b) X.1 X.2.1 X.2.2) (hlen : its.length + 1 ≤ 1000000) :
  ∃ g c' w', (∀ ty, (Builtin.append_ #[22, 22] ty #[v, .slice (some ⟨w.heap.size, 0, none⟩) 1 1]).run Tryz.prog (w.alloc (.cells #[.int .i64 X.1.kind, .string X.1.name, .int .i64 X.1.sort, .slice X.2.1 X.1.kids.length X.2.2] 24)) = .ok (.slice (some ⟨g, 0, none⟩) (its.length + 1) c') w') ∧
   RowT w' base F (.slice (some ⟨g, 0, none⟩) (its.length + 1) c') (its ++ [X]) ∧ (∀ W0 B0, Below B0 W0 w → B0 ≤ base → Below B0 W0 w') ∧ (∀ k, k < w.heap.size → v.ownBlock ≠ some k → w'.heap[k]? = w.heap[k]?) ∧ (v.ownBlock = some g ∨ w.heap.size ≤ g) := by
 obtain ⟨i0, hi0, hz0, hz1, hz2⟩ := info_parts qca;have hb := qaf (Nat.le_refl w.heap.size) (.cells #[.int .i64 X.1.kind, .string X.1.name, .int .i64 X.1.sort, .slice X.2.1 X.1.kids.length X.2.2] 24);have hrow' := hrow.below hb;have hn := heap_alloc_new w (.cells #[.int .i64 X.1.kind, .string X.1.name, .int .i64 X.1.sort, .slice X.2.1 X.1.kids.length X.2.2] 24);have hsz : (w.alloc (.cells #[.int .i64 X.1.kind, .string X.1.name, .int .i64 X.1.sort, .slice X.2.1 X.1.kids.length X.2.2] 24)).heap.size = w.heap.size + 1 := by simp
 generalize w.alloc (.cells #[.int .i64 X.1.kind, .string X.1.name, .int .i64 X.1.sort, .slice X.2.1 X.1.kids.length X.2.2] 24) = Z at *;obtain ⟨v', w', hr, ho, hg, -, hat⟩ := run_append_own_at (P := Tryz.prog) (w := Z) base 22 0 24 i0 _ 4 56 Tryz.underlying22 hi0 hz0 hz1 hz2 rfl (by omega) v its.length (itCells its) hrow'.own
  ⟨w.heap.size, 0, none⟩ 1 1 (itCells [X]) (by rw [qa6]; rfl) (fun j u hj => World.news_of_block hn j u (by simpa [itCells, Tm.cells] using hj)) (qbo [X]) (by unfold maxLen; omega) (by omega) (by omega)
 rcases ho.2 with ⟨-, h0⟩ | ⟨g, cap, cur, rfl, _⟩
 ·omega
 have hgr : v.ownBlock = some g ∨ w.heap.size ≤ g := by
  rcases hat with h | h
  ·exact .inl h.symm
  ·right;have e : some g = some Z.heap.size := h;injection e with e;omega
 have hsw : w.heap.size ≤ w'.heap.size := by have := hg.size; omega
 have hold : ∀ k, k < w.heap.size → v.ownBlock ≠ some k → w'.heap[k]? = w.heap[k]? := fun k hk hne => by
  rw [hg.block k (by omega) (fun e => hne e.symm), hb.block k hk]
 refine ⟨g, cap, w', fun ty => hr, ⟨by rw [qbn, List.length_append]; exact ho, fun x hx => ?_⟩, fun W0 B0 hB hB0 => qar (hB.trans (hb.mono (by omega))) (by omega) hg (fun k hk => by have := (hrow.lt k hk).1; omega), hold, hgr⟩;have key : RepP w (fun b => F b ∧ b < w.heap.size ∧ v.ownBlock ≠ some b) x.1 x.2.1 x.2.2 := by
  rcases List.mem_append.1 hx with hx | hx
  ·exact hrow.reps x hx
  ·rw [List.mem_singleton.1 hx]; exact hX
 refine RepP.mono ?_ ?_ _ _ _ key
 ·rintro b ⟨k1, k2, k3⟩;refine ⟨k1, Nat.lt_of_lt_of_le k2 hsw, fun e => ?_⟩;have e' : g = b := by injection e
  rcases hgr with h | h
  ·rw [e'] at h; exact k3 h
  ·omega
 ·rintro p ⟨k1, k2, k3⟩;exact World.cell?_of_block (hold p.block k2 k3)
section
variable {gb mb : Nat} {nn : MkV} {B : Nat} {N : List ByteArray} {g : Gs} {PA0 VA0 PA VA : Option Addr} {Pc Vc : Nat} {its : List IB} {vts : List It} {w Z : World} {o1 o2 : Obj}
theorem ROAt.next (h : ROAt gb mb nn B N g PA0 VA0 w o1 o2 PA Pc VA Vc its vts Z) (hB : B ≤ mb) (hmb : mb < gb) (hgw : gb < w.heap.size) (m : Nat) :
  ROAt gb mb nn B N { g with next := m } PA0 VA0 w o1 o2 PA Pc VA Vc its vts (Z.setCell ⟨gb, 1, none⟩ (.int .i64 m)) := by
 have hl := h.lt;have hgl := h.gen.lt;have ho : ∀ k, k ≠ gb → (Z.setCell ⟨gb, 1, none⟩ (.int .i64 m)).heap[k]? = Z.heap[k]? := fun k hk => Below.heap_setCell _ _ _ _ hk;have hsz : (Z.setCell ⟨gb, 1, none⟩ (.int .i64 m)).heap.size = Z.heap.size := by simp [World.setCell]
 have hc : (Z.setCell ⟨gb, 1, none⟩ (.int .i64 m)).heap[gb]? = some (qme nn m (.slice PA its.length Pc) (.slice VA vts.length Vc)) := by
  have h0 := h.gen.cell;unfold qme at h0 ⊢;simp [World.setCell, Array.getElem?_modify, h0]
 refine ⟨⟨hc, h.gen.set.keep (by omega) (fun k hk => ho k (by omega)), h.gen.row.keep (by omega) (fun b hb hor => ho b ?_), qbb h.gen.vrow (by omega) (fun k e => by rw [qaq] at e; have := h.gen.own2 k e; exact ho k (by omega)) (fun b hb => False.elim hb), h.gen.pairs, h.gen.vars, h.gen.leaf, h.gen.apart⟩,
  (ho _ (by omega)).trans h.b1, (ho _ (by omega)).trans h.b2, (ho _ (by omega)).trans h.b3, Below.setCell h.bel (by exact Nat.le_refl gb) _, fun k hk h1 h2 h3 => (ho k h1).trans (h.old k hk h1 h2 h3), h.own1, h.own2⟩
 rcases hor with h1 | h1
 ·omega
 ·rw [qaq] at h1; have := h.gen.own1 b h1; omega
end
attribute [local irreducible] qa3
set_option linter.unusedSimpArgs false in
set_option linter.unusedVariables false in
set_option maxHeartbeats 8000000 in
theorem rof_any (gb mb : Nat) (nn : MkV) (B : Nat) (N : List ByteArray) (w0 : World) (M : Nat) (hg0 : w0.heap.size ≤ gb) (hmb : mb < gb) (hBm : B ≤ mb) (hM : M ≤ 1000000) (n : Nat) :
  ∀ (t u : Tm) (T U : Option Addr) (ct cu : Nat) (g : Gs) (PA : Option Addr) (Pc : Nat) (VA : Option Addr) (Vc : Nat) (its : List IB) (vts : List It) (w : World), t.size ≤ n → t.valid = 0 → u.valid = 0 → GsOk N g → (N.length + 1) * (g.pairs.length + t.size) < M → g.pairs.length + t.size ≤ 1000000 → TabV g →
   RGAt gb mb nn B N g PA Pc VA Vc its vts w → Below w0.heap.size w0 w → RepP w (fun b => b < B) t T ct → RepP w (fun b => b < B) u U cu →
   Calls Tryz.prog 53 #[.pointer (some ⟨gb, 0, none⟩), t.val T ct, u.val U cu] w (ROfed gb mb nn B N (t.gen N u g) PA VA w) := by
 have mixed : Tryz.prog.follows .mixedOrders = true := by kernel_rfl
 induction n with
 | zero => intro t _ _ _ _ _ _ _ _ _ _ _ _ _ h; have := t.size_pos; omega
 | succ n ih =>
  intro t u T U ct cu g PA Pc VA Vc its vts w hn hvt hvu hok hbd hbp hps hgen hw0 hrt hru;have hgl := hgen.lt;have ht4 := qah hvt;have hu4 := qah hvu;have hB : B ≤ w.heap.size := by omega
  obtain ⟨V, hV⟩ : ∃ V, V = ((w.alloc (boxT t T ct)).alloc (boxT u U cu)).alloc (.cells #[.int .i64 0, .string ⟨#[]⟩, .int .i64 0, .slice none 0 0] 24) := ⟨_, rfl⟩;have hV2 : Two w t u T U ct cu ((w.alloc (boxT t T ct)).alloc (boxT u U cu)) := Two.new _ _ _ _ _ _ _;have hs2 : ((w.alloc (boxT t T ct)).alloc (boxT u U cu)).heap.size = w.heap.size + 1 + 1 := by simp
  have hbV : Below ((w.alloc (boxT t T ct)).alloc (boxT u U cu)).heap.size ((w.alloc (boxT t T ct)).alloc (boxT u U cu)) V := by rw [hV]; exact qaf (Nat.le_refl _) _
  have hwV := qae hV2.lay.below hbV hV2.lay.size;have ho : ROAt gb mb nn B N g PA VA w (boxT t T ct) (boxT u U cu) PA Pc VA Vc its vts V := by
   refine ⟨hgen.below hwV, (hbV.block _ (by omega)).trans hV2.one, (hbV.block _ (by omega)).trans hV2.two, ?_, hwV.mono (Nat.le_of_lt hgl), fun k hk _ _ _ => hwV.block k hk, fun k e => .inl e, fun k e => .inl e⟩;rw [hV, ← hs2]; exact heap_alloc_new _ _
  clear hV2 hs2 hbV;have up : Hid (∀ (Z : World) (y : Tm) (Y : Option Addr) (cy : Nat), Below gb w Z → B ≤ Z.heap.size → RepP w (fun b => b < B) y Y cy → RepP Z (fun b => b < B) y Y cy) := Lib.hid fun Z y Y cy hZ hBZ h => RepP.mono (fun _ h => h) (fun p (hp : p.block < B) => hZ.cell (by omega)) _ _ _ h;have hup : ∀ (Z : World) (y : Tm) (Y : Option Addr) (cy : Nat), Below gb w Z → w.heap.size ≤ Z.heap.size → RepP w (fun b => b < B) y Y cy → RepT Z Z.heap.size y Y cy := fun Z y Y cy hZ hs h => RepP.mono (fun b (hb : b < B) => by show b < _; omega) (fun p (hp : p.block < B) => hZ.cell (by omega)) _ _ _ h;have HUP := Lib.hid hup; clear hup;have SM := qb3 t u T U ct cu V (by omega) (by omega) (HUP.out V _ _ _ ho.bel (by have := ho.lt; omega) hrt) (HUP.out V _ _ _ ho.bel (by have := ho.lt; omega) hru)
  have AL : Hid (∀ Z, Calls Tryz.prog 63 #[t.val T ct, u.val U cu] Z fun e w' => e = .returned (.bool (qa1 t u)) ∧ Lay Z.heap.size Z w') := Lib.hid fun Z => ql6 t u T U ct cu Z (by have := qb6 t; omega) (by have := qb6 u; omega);have hsm : t.same u = decide (t = u) := by
   by_cases h : t = u
   ·rw [Tm.same_iff.2 h, decide_eq_true h]
   ·rw [Tm.same_false.2 h, decide_eq_false h]
  rw [hsm] at SM;clear hsm;obtain ⟨qs, hqs⟩ : ∃ q, q = decide (t = u) := ⟨_, rfl⟩;rw [← hqs] at SM;have HQS := Lib.hid hqs; clear hqs;obtain ⟨qk, hqk⟩ : ∃ q, q = qa1 t u := ⟨_, rfl⟩;rw [← hqk] at AL;have HQK := Lib.hid hqk; clear hqk;obtain ⟨res, hres⟩ : ∃ r, r = t.gen N u g := ⟨_, rfl⟩;rw [← hres];rw [gen_eq] at hres;have HRES := Lib.hid hres; clear hres;have HO := Lib.hid ho; clear ho;have HRT := Lib.hid hrt; clear hrt;have HRU := Lib.hid hru; clear hru;have HVT := Lib.hid hvt; clear hvt;have HVU := Lib.hid hvu; clear hvu;have HOK := Lib.hid hok; clear hok;have HBD := Lib.hid hbd; clear hbd;have HPS := Lib.hid hps; clear hps;have HGEN := Lib.hid hgen; clear hgen;have HW0 := Lib.hid hw0; clear hw0;have IH := Lib.hid ih; clear ih;simp only [boxT] at hV;have HV := Lib.hid hV; clear hV hwV;simp only [Tm.val] at SM AL ⊢;have SM := Lib.hid SM
  go_enter Tryz.func53, Tryz.ntmps53
  refine wp_seq_k (fun K hK => ?_);refine qb8 (fun a0 a' w' => a' = (((a0.put (some 4) (.pointer (some ⟨w.heap.size, 0, none⟩))).put (some 5) (.pointer (some ⟨w.heap.size + 1, 0, none⟩))).put (some 6) (.pointer (some ⟨w.heap.size + 1 + 1, 0, none⟩))) ∧ w' = V) ?_ ?_
  ·go_wp2_with fail
   exact HV.out.symm
  rintro a' w' ⟨rfl, hw'⟩;rw [hw'];clear hw' w';refine hK _ _ ?_;clear hK K HV;obtain ⟨a0, a1, a2, a3, af⟩ := qam t (HO.out.b1);obtain ⟨b0, b1, b2, b3, bf⟩ := qam u (HO.out.b2);obtain ⟨z0, z1, z2, z3, zf⟩ := qad HO.out.b3;go_wp2_with fail
  refine SM.out.mono ?_; clear SM; clear a0 a1 a2 a3 af b0 b1 b2 b3 bf z0 z1 z2 z3 zf;rintro e w1 ⟨rfl, hl1⟩;have HO1 := Lib.hid (HO.out.go hl1.below); clear HO hl1;obtain ⟨a0, a1, a2, a3, af⟩ := qam t (HO1.out.b1);obtain ⟨b0, b1, b2, b3, bf⟩ := qam u (HO1.out.b2);obtain ⟨z0, z1, z2, z3, zf⟩ := qad HO1.out.b3
  cases qs with
  | true =>
   have hr : res = (t, g) := HRES.out.trans (if_pos (of_decide_eq_true HQS.out.symm));have HR := Lib.hid hr; clear hr HRES AL IH;go_wp2_with fail
   refine bodyPost_ret (v := .agg #[.int .i64 t.kind, .string t.name, .int .i64 t.sort, .slice T t.kids.length ct]) ?_ rfl ?_
   ·simp [results, Tryz.results53, go_sem, z0, z1, z2, z3]
   refine ⟨T, ct, PA, Pc, VA, Vc, its, vts, by rw [HR.out]; rfl, ?_⟩;rw [HR.out];exact HO1.out.give hB hgl hmb (fun k e => (HGEN.out.own1 k e).2) (fun k e => (HGEN.out.own2 k e).2) (RepP.mono (fun b hb => .inl hb) (fun _ _ => rfl) _ _ _ (up.out w1 _ _ _ HO1.out.bel (by have := HO1.out.lt; omega) HRT.out))
  | false =>
  have hne : t ≠ u := of_decide_eq_false HQS.out.symm;have hr := HRES.out.trans (if_neg hne);have HNE := Lib.hid hne; clear hne HQS;have HRES1 := Lib.hid hr; clear hr HRES;have AL := Lib.hid (AL.out w1);go_wp2_with fail
  refine AL.out.mono ?_; clear AL; clear a0 a1 a2 a3 af b0 b1 b2 b3 bf z0 z1 z2 z3 zf;rintro e w2 ⟨rfl, hl2⟩;have HO2 := Lib.hid (HO1.out.go hl2.below); clear HO1 hl2;obtain ⟨a0, a1, a2, a3, af⟩ := qam t (HO2.out.b1);obtain ⟨b0, b1, b2, b3, bf⟩ := qam u (HO2.out.b2);obtain ⟨z0, z1, z2, z3, zf⟩ := qad HO2.out.b3
  cases qk with
  | true =>
   have hal : qa1 t u = true := HQK.out.symm;have hr := HRES1.out.trans (if_pos hal);have HR := Lib.hid hr; clear hr HRES1 HQK;have hpos := qh5 HVT.out HVU.out HNE.out hal;obtain ⟨-, -, -, hkl⟩ := qa0.1 hal;have hkt := qb6 t;have HKL := Lib.hid hkl; clear hal hkl;have hPw : ∀ k, ownA PA = some k → k < w.heap.size := fun k e => (HGEN.out.own1 k e).2;have hVw : ∀ k, ownA VA = some k → k < w.heap.size := fun k e => (HGEN.out.own2 k e).2;have HPW := Lib.hid hPw; have HVW := Lib.hid hVw;clear hPw hVw;clear a0 a1 a2 a3 af b0 b1 b2 b3 bf z0 z1 z2 z3 zf;go_wp2_with fail
   go_loopw [7, 8] (fun v a wr => ∃ (i : Nat) (cur : List It) (A9 : Option Addr) (C9 : Nat) (PA' : Option Addr) (Pc' : Nat) (VA' : Option Addr) (Vc' : Nat) (its' : List IB) (vts' : List It), a = .int .i64 i ∧ v = .slice A9 cur.length C9 ∧ i ≤ t.kids.length ∧ cur.length = i ∧
     Hid (RowT wr (w.heap.size + 3) (KidF B (w.heap.size + 3) PA' VA') (.slice A9 cur.length C9) cur) ∧ Hid (cur.map (·.1) = (Tm.gens N (t.kids.take i) (u.kids.take i) g).1) ∧
     Hid (ROAt gb mb nn B N (Tm.gens N (t.kids.take i) (u.kids.take i) g).2 PA VA w (boxT t T ct) (boxT u U cu) PA' Pc' VA' Vc' its' vts' wr) ∧ Hid (∀ k, ownA A9 = some k → ownA PA' ≠ some k ∧ ownA VA' ≠ some k)) (fun _ a _ => t.kids.length - (intOf a).toNat)
   case atStart => exact ⟨0, [], none, 0, PA, Pc, VA, Vc, its, vts, rfl, rfl, Nat.zero_le _, rfl, RowT.nil _ _ _, by show _ = _; simp [Tm.gens], by simpa [Tm.gens] using HO2, fun k e => nomatch e⟩
   case round =>
    clear HO2;obtain ⟨i, cur, A9, C9, PA', Pc', VA', Vc', its', vts', rfl, rfl, hi, hcl, HRW, HM, HOR, HN9⟩ := hrel;have HCL := Lib.hid hcl;have hcl3 : cur.length ≤ 1000 := by omega
    clear hcl;have hor3 := HOR.out.lt;have hrn := (qih HRT.out);have hcap1 := hrn.2.1;have hcap2 := hrn.2.2.1;unfold maxLen at hcap2;clear hrn;obtain ⟨a0, a1, a2, a3, af⟩ := qam t (HOR.out.b1);have i1 : (0 : Int) ≤ (i : Int) := Int.natCast_nonneg _;by_cases hlt : i < t.kids.length
    ·have hiu : i < u.kids.length := by have := HKL.out; omega
     rcases (qih HRT.out).2.2.2 with h | ⟨tb, toff, hT, htB, htl⟩
     ·rw [h] at hlt; simp at hlt
     rcases (qih HRU.out).2.2.2 with h | ⟨ub, uoff, hU, huB, hul⟩
     ·rw [h] at hiu; simp at hiu
     subst hT hU;have HOD : Hid (ROAt gb mb nn B N (Tm.gens N (t.kids.take i) (u.kids.take i) g).2 PA VA w (boxT t (some ⟨tb, toff, none⟩) ct) (boxT u (some ⟨ub, uoff, none⟩) cu) PA' Pc' VA' Vc' its' vts' wr.drew) := HOR.out.go (Below.refl _ _).drew;have HRD : Hid (RowT wr.drew (w.heap.size + 3) (KidF B (w.heap.size + 3) PA' VA') (.slice A9 cur.length C9) cur) := HRW.out.below (Below.refl _ _).drew;have hsD : wr.drew.heap.size = wr.heap.size := rfl;have i2 : (i : Int) < (t.kids.length : Int) := by omega
     have i3 : (i : Int) < (u.kids.length : Int) := by omega
     clear HRW HOR;go_wp2_with fail
     clear a0 a1 a2 a3 af;refine qal (fun _ => True) (fun Y => Y.heap[w.heap.size]? = wr.drew.heap[w.heap.size]? ∧ Y.heap[w.heap.size + 1]? = wr.drew.heap[w.heap.size + 1]? ∧ ∀ p : Addr, p.block < B → Y.cell? p = wr.drew.cell? p) [] (.held 0 (.held 1 (.held 2 (.held 3 (.held 4 (.held 5 (.held 6 (.held 7 (.held 8 (.held 9 (.held 10 (.held 11 (.op 12 (.op 13 (.op 14 (.held 15 .nil)))))))))))))))) mixed (by kernel_rfl) ?_;rw [← hsD] at hor3;generalize wr.drew = D at *;have htr : qao D (fun b => b < B) t.kids tb toff := qao.mono (fun _ h => h) (fun p (hp : p.block < B) => HOD.out.bel.cell (by omega)) _ _ _ htB htl;have hur : qao D (fun b => b < B) u.kids ub uoff := qao.mono (fun _ h => h) (fun p (hp : p.block < B) => HOD.out.bel.cell (by omega)) _ _ _ huB hul;obtain ⟨Ai, ci, k0, k1, k2, k3, hri⟩ := htr.get i hlt;obtain ⟨Aj, cj, l0, l1, l2, l3, hrj⟩ := hur.get i hiu
     have hsz := Tm.sizes_get t.kids i hlt;have hst := qd5 t.kids i hlt;have hs3 := size3 t;have hvy := qat HVT.out (List.getElem_mem hlt);have hvz := qat HVU.out (List.getElem_mem hiu);obtain ⟨gk1, gk2, gk3, gk4⟩ := qik (t.kids.take i) (u.kids.take i) g HOK.out;have gk5 := qf7 N (t.kids.take i) (u.kids.take i) g HPS.out (fun x hx => qat HVT.out (List.mem_of_mem_take hx)) (fun x hx => qat HVU.out (List.mem_of_mem_take hx));have hgt := qjp N g HKL.out i hlt;obtain ⟨y, hy⟩ : ∃ y, y = t.kids[i] := ⟨_, rfl⟩;obtain ⟨z, hz⟩ : ∃ z, z = u.kids[i] := ⟨_, rfl⟩;obtain ⟨gi, hgi⟩ : ∃ gi, gi = (Tm.gens N (t.kids.take i) (u.kids.take i) g).2 := ⟨_, rfl⟩;rw [← hy] at k0 k1 k2 k3 hri hsz hst hvy hgt;rw [← hz] at l0 l1 l2 l3 hrj hvz hgt;rw [← hgi] at gk1 gk2 gk3 gk4 gk5 hgt HOD;clear hy hz hgi htr hur htl hul
     have hbm : (N.length + 1) * (gi.pairs.length + y.size) < M := Nat.lt_of_le_of_lt (Nat.mul_le_mul_left _ (by omega)) HBD.out;have CL := IH.out y z Ai Aj ci cj gi PA' Pc' VA' Vc' its' vts' D (by omega) hvy hvz gk1 hbm (by omega) gk5 HOD.out.gen (HW0.out.trans (HOD.out.bel.mono hg0)) hri hrj;obtain ⟨q, hq⟩ : ∃ q, q = y.gen N z gi := ⟨_, rfl⟩;rw [← hq] at CL hgt;simp only [Tm.val] at CL;have CL := Lib.hid CL;have HGT := Lib.hid hgt;clear hq hgt hbm gk1 gk2 gk3 gk4 gk5 hvy hvz hsz hst hs3 hri hrj;have HBX1 : Hid (D.heap[w.heap.size]? = some (.cells #[.int .i64 t.kind, .string t.name, .int .i64 t.sort, .slice (some ⟨tb, toff, none⟩) t.kids.length ct] 24 (0, 0))) := HOD.out.b1
     have HBX2 : Hid (D.heap[w.heap.size + 1]? = some (.cells #[.int .i64 u.kind, .string u.name, .int .i64 u.sort, .slice (some ⟨ub, uoff, none⟩) u.kids.length cu] 24 (0, 0))) := HOD.out.b2;have ho1 := HOD.out.gen.own1;have ho2 := HOD.out.gen.own2;have hoA := HOD.out.own1;have hoB := HOD.out.own2;have HS0 : Hid (D.heap[w.heap.size]? = D.heap[w.heap.size]? ∧ D.heap[w.heap.size + 1]? = D.heap[w.heap.size + 1]? ∧ ∀ p : Addr, p.block < B → D.cell? p = D.cell? p) := Lib.hid ⟨rfl, rfl, fun _ _ => rfl⟩;refine qaa (v := .slice A9 cur.length C9) rfl rfl rfl (fun _ _ _ h => h) trivial HS0.out (fun Y _ hY => by
      clear hY
      (try simp only [Act.put]); go_simp) ?_
     refine qaa (v := .pointer (some ⟨gb, 0, none⟩)) rfl rfl rfl (fun _ _ _ h => h) trivial HS0.out (fun Y _ hY => by
      clear hY
      (try simp only [Act.put]); go_simp) ?_
     refine qaa (v := .pointer (some ⟨w.heap.size, 3, none⟩)) rfl rfl rfl (fun _ _ _ h => h) trivial HS0.out (fun Y _ hY => by
      clear hY
      (try simp only [Act.put]); go_simp) ?_
     refine qaa (v := .slice (some ⟨tb, toff, none⟩) t.kids.length ct) rfl rfl rfl (fun _ _ _ h => h) trivial HS0.out (fun Y _ hY => by
      obtain ⟨z0, z1, z2, z3, -⟩ := qad (hY.1.trans HBX1.out);clear hY
      (try simp only [Act.put]); go_simp) ?_
     (try simp only [Act.put, List.setIfInBounds_toArray, List.set_cons_succ, List.set_cons_zero, List.getElem_toArray, List.getElem_cons_succ, List.getElem_cons_zero])
     refine qaa (v := .int .i64 i) rfl rfl rfl (fun _ _ _ h => h) trivial HS0.out (fun Y _ hY => by
      clear hY
      (try simp only [Act.put]); go_simp) ?_
     refine qaa (v := .pointer (some ⟨tb, toff + i * 4, none⟩)) rfl rfl rfl (fun _ _ _ h => h) trivial HS0.out (fun Y _ hY => by
      clear hY
      (try simp only [Act.put]); go_simp) ?_
     refine qaa (v := .agg #[.int .i64 y.kind, .string y.name, .int .i64 y.sort, .slice Ai y.kids.length ci]) rfl rfl rfl (fun _ _ _ h => h) trivial HS0.out (fun Y _ hY => by
      have z0 := (hY.2.2 ⟨tb, toff + i * 4, none⟩ htB).trans k0;have z1 := (hY.2.2 ⟨tb, toff + i * 4 + 1, none⟩ htB).trans k1;have z2 := (hY.2.2 ⟨tb, toff + i * 4 + 2, none⟩ htB).trans k2;have z3 := (hY.2.2 ⟨tb, toff + i * 4 + 3, none⟩ htB).trans k3;clear hY
      (try simp only [Act.put]); go_simp) ?_
     refine qaa (v := .pointer (some ⟨w.heap.size + 1, 3, none⟩)) rfl rfl rfl (fun _ _ _ h => h) trivial HS0.out (fun Y _ hY => by
      clear hY
      (try simp only [Act.put]); go_simp) ?_
     (try simp only [Act.put, List.setIfInBounds_toArray, List.set_cons_succ, List.set_cons_zero, List.getElem_toArray, List.getElem_cons_succ, List.getElem_cons_zero])
     refine qaa (v := .slice (some ⟨ub, uoff, none⟩) u.kids.length cu) rfl rfl rfl (fun _ _ _ h => h) trivial HS0.out (fun Y _ hY => by
      obtain ⟨z0, z1, z2, z3, -⟩ := qad (hY.2.1.trans HBX2.out);clear hY
      (try simp only [Act.put]); go_simp) ?_
     refine qaa (v := .int .i64 i) rfl rfl rfl (fun _ _ _ h => h) trivial HS0.out (fun Y _ hY => by
      clear hY
      (try simp only [Act.put]); go_simp) ?_
     refine qaa (v := .pointer (some ⟨ub, uoff + i * 4, none⟩)) rfl rfl rfl (fun _ _ _ h => h) trivial HS0.out (fun Y _ hY => by
      clear hY
      (try simp only [Act.put]); go_simp) ?_
     refine qaa (v := .agg #[.int .i64 z.kind, .string z.name, .int .i64 z.sort, .slice Aj z.kids.length cj]) rfl rfl rfl (fun _ _ _ h => h) trivial HS0.out (fun Y _ hY => by
      have z0 := (hY.2.2 ⟨ub, uoff + i * 4, none⟩ huB).trans l0;have z1 := (hY.2.2 ⟨ub, uoff + i * 4 + 1, none⟩ huB).trans l1;have z2 := (hY.2.2 ⟨ub, uoff + i * 4 + 2, none⟩ huB).trans l2;have z3 := (hY.2.2 ⟨ub, uoff + i * 4 + 3, none⟩ huB).trans l3;clear hY
      (try simp only [Act.put]); go_simp) ?_
     (try simp only [Act.put, List.setIfInBounds_toArray, List.set_cons_succ, List.set_cons_zero, List.getElem_toArray, List.getElem_cons_succ, List.getElem_cons_zero])
     clear k0 k1 k2 k3 l0 l1 l2 l3;refine qab rfl rfl (fun K hK => ?_);go_wp2_with fail
     refine CL.out.mono ?_; clear CL;rintro e w5 ⟨A5, c5, PA5, Pc5, VA5, Vc5, its5, vts5, rfl, hof⟩;have HO5 := Lib.hid (HOD.out.call hgl HPW.out HVW.out hof);have hR5 := rrow_call HRD.out hof (by omega) (by omega) (fun k e => HN9.out k (by rw [qaq] at e; exact e)) (fun k e => (ho1 k e).1) (fun k e => (ho2 k e).1);have hs5 := hof.size;have hsb : ∀ Y : World, ROAt gb mb nn B N q.2 PA VA w (boxT t (some ⟨tb, toff, none⟩) ct) (boxT u (some ⟨ub, uoff, none⟩) cu) PA5 Pc5 VA5 Vc5 its5 vts5 Y → Y.heap[w.heap.size]? = D.heap[w.heap.size]? ∧ Y.heap[w.heap.size + 1]? = D.heap[w.heap.size + 1]? ∧ ∀ p : Addr, p.block < B → Y.cell? p = D.cell? p := fun Y hY =>
      ⟨hY.b1.trans HBX1.out.symm, hY.b2.trans HBX2.out.symm, fun p hp => (hY.bel.cell (by omega)).trans (HOD.out.bel.cell (by omega)).symm⟩
     have HSB := Lib.hid hsb; clear hsb;refine hK _ _ ⟨⟨fun _ => trivial, HSB.out _ HO5.out⟩, ?_⟩;clear hK K;have hown9 : ∀ k, ownA A9 = some k → k < D.heap.size := fun k e => (HRD.out.lt k (by rw [qaq]; exact e)).2;have hown8 : ∀ k, ownA A9 = some k → w.heap.size + 3 ≤ k := fun k e => (HRD.out.lt k (by rw [qaq]; exact e)).1;have hn5 : ∀ k, ownA A9 = some k → ownA PA5 ≠ some k ∧ ownA VA5 ≠ some k := fun k e => ⟨fun e2 => by
      rcases hof.own1 k e2 with h | h
      ·exact (HN9.out k e).1 h
      ·have := hown9 k e; omega, fun e2 => by
      rcases hof.own2 k e2 with h | h
      ·exact (HN9.out k e).2 h
      ·have := hown9 k e; omega⟩
     have hrep5 : RepP w5 (fun k => KidF B (w.heap.size + 3) PA5 VA5 k ∧ k < w5.heap.size ∧ (Value.slice A9 cur.length C9).ownBlock ≠ some k) q.1 A5 c5 := RepP.mono (fun k h => by
      rcases h with h | ⟨h1, h2, h3, h4⟩
      ·exact ⟨.inl h, by omega, fun e => by rw [qaq] at e; have := hown8 k e; omega⟩
      ·exact ⟨.inr ⟨by omega, h3, h4⟩, h2, fun e => by rw [qaq] at e; have := hown9 k e; omega⟩) (fun _ _ => rfl) _ _ _ hof.rep
     obtain ⟨g6, c6, w6, hap, hrow6, hbl6, hold6, hg6⟩ := ql7 hR5 (by omega) (q.1, A5, c5) hrep5 (by omega);obtain ⟨A6, hA6⟩ : ∃ A6 : Option Addr, A6 = some ⟨g6, 0, none⟩ := ⟨_, rfl⟩;rw [← hA6] at hap hrow6;have hs6 : w5.heap.size ≤ w6.heap.size := (hbl6 w5 (w.heap.size + 3) (Below.refl _ _) (Nat.le_refl _)).size;have hl6 : (cur ++ [(q.1, A5, c5)]).length = cur.length + 1 := by simp
     have hn6 : ∀ k, ownA A6 = some k → ownA PA5 ≠ some k ∧ ownA VA5 ≠ some k := fun k e => by
      have e2 : some g6 = some k := by rw [hA6] at e; exact e
      injection e2 with e2;subst e2;rcases hg6 with h | h
      ·rw [qaq] at h; exact hn5 _ h
      ·exact ⟨fun e3 => by have := (HO5.out.gen.own1 _ e3).2; omega, fun e3 => by have := (HO5.out.gen.own2 _ e3).2; omega⟩
     have HO6 : Hid (ROAt gb mb nn B N q.2 PA VA w (boxT t (some ⟨tb, toff, none⟩) ct) (boxT u (some ⟨ub, uoff, none⟩) cu) PA5 Pc5 VA5 Vc5 its5 vts5 w6) := Lib.hid (HO5.out.other hs6 hgl hmb hBm (hbl6 w gb HO5.out.bel (by omega)) (fun k hlt2 hor => hold6 k hlt2 (fun e => by
      rw [qaq] at e;rcases hor with h | h | h
      ·have := hown8 k e; omega
      ·exact (hn5 k e).1 h
      ·exact (hn5 k e).2 h)))
     have HN6 := Lib.hid hn6;have HR6 := Lib.hid hrow6; have HL6 := Lib.hid hl6;have HAP := Lib.hid hap;clear hn6 hrow6 hl6 hap hbl6 hold6 hg6 hA6 hrep5 hn5 hown9 hown8 hR5 hof HOD HRD;obtain ⟨q1, q2⟩ := q;dsimp only at HO5 HO6 HGT HAP HR6 HL6 HSB ⊢;simp only [Tm.val]
     (try simp only [Act.put, List.setIfInBounds_toArray, List.set_cons_succ, List.set_cons_zero, List.getElem_toArray, List.getElem_cons_succ, List.getElem_cons_zero])
     refine qab rfl rfl (fun K hK => ?_);go_wp2_with fail
     refine ⟨⟨fun _ => trivial, HSB.out _ (HO5.out.go (qaf (Nat.le_refl _) _))⟩, ?_⟩
     (try simp only [Act.put, List.setIfInBounds_toArray, List.set_cons_succ, List.set_cons_zero, List.getElem_toArray, List.getElem_cons_succ, List.getElem_cons_zero])
     refine qab rfl rfl (fun K hK => ?_);refine qag (by rfl) (.tmp 28) (.tmp 41) (by rfl) (by rfl) (by rfl) HAP.out ?_;refine hK _ _ ⟨⟨fun _ => trivial, HSB.out _ HO6.out⟩, ?_⟩;clear hK K HAP
     (try simp only [Act.put, List.setIfInBounds_toArray, List.set_cons_succ, List.set_cons_zero, List.getElem_toArray, List.getElem_cons_succ, List.getElem_cons_zero])
     refine qaa (v := .slice A6 (cur.length + 1) c6) rfl rfl rfl (fun _ _ _ h => h) trivial (HSB.out _ HO6.out) (fun Y _ hY => by
      clear hY
      (try simp only [Act.put]); go_simp) ?_
     (try simp only [Act.put, List.setIfInBounds_toArray, List.set_cons_succ, List.set_cons_zero, List.getElem_toArray, List.getElem_cons_succ, List.getElem_cons_zero])
     refine qap ?_;go_wp2_with fail
     go_roundw
     case rel =>
      refine ⟨i + 1, cur ++ [(q1, A5, c5)], A6, c6, PA5, Pc5, VA5, Vc5, its5, vts5, by go_num, by rw [HL6.out], by omega, by rw [HL6.out]; have := HCL.out; omega, by rw [HL6.out]; exact HR6.out, ?_, ?_, HN6.out⟩
      ·show _ = _;rw [List.map_append, HM.out, HGT.out]; rfl
      ·rw [HGT.out];exact HO6.out
     case measure => simp [intOf]; omega
    ·obtain rfl : i = t.kids.length := by omega
     have hm := HM.out;have hor := HOR.out;rw [List.take_of_length_le (Nat.le_refl _), List.take_of_length_le (show u.kids.length ≤ t.kids.length by have := HKL.out; omega)] at hm hor;obtain ⟨A7, c7, he, hS⟩ := HRW.out.toS2 (P := fun b => b < B ∨ (w.heap.size + 3 ≤ b ∧ b < wr.heap.size ∧ ownA PA' ≠ some b ∧ ownA VA' ≠ some b)) (fun b h h' _ => h.imp id (fun h => ⟨h.1, h', h.2⟩)) (fun b e =>
      .inr ⟨(HRW.out.lt _ e).1, (HRW.out.lt _ e).2, HN9.out b (by rw [qaq] at e; exact e)⟩)
     injection he with he1 he2 he3;subst he1 he3;rw [hm] at hS;have hlen : (Tm.gens N t.kids u.kids g).1.length = t.kids.length := by rw [← hm, List.length_map]; exact HCL.out
     obtain ⟨L, hL⟩ : ∃ L, L = (Tm.gens N t.kids u.kids g).1 := ⟨_, rfl⟩;obtain ⟨g', hg'⟩ : ∃ g', g' = (Tm.gens N t.kids u.kids g).2 := ⟨_, rfl⟩;have hr := HR.out;rw [← hL] at hS hlen hr;rw [← hg'] at hor hr;have hrn := (qih HRT.out).1;clear hm hL hg' HM HOR HR he2;rw [HCL.out];have hbx := hor.box1 hgl hmb hBm (fun k e => (HGEN.out.own1 k e).2) (fun k e => (HGEN.out.own2 k e).2) (.slice A9 t.kids.length C9);have hrp : RepP (wr.setCell ⟨w.heap.size, 3, none⟩ (.slice A9 t.kids.length C9)) (fun b => b < B ∨ (w.heap.size + 3 ≤ b ∧ b < (wr.setCell ⟨w.heap.size, 3, none⟩ (.slice A9 t.kids.length C9)).heap.size ∧ ownA PA' ≠ some b ∧ ownA VA' ≠ some b)) (.mk t.kind t.name t.sort L) A9 C9 := by
      rw [qa7];refine ⟨hrn, RepS.mono ?_ ?_ hS⟩
      ·rintro b (h | ⟨h1, h2, h3⟩)
       ·exact .inl h
       ·exact .inr ⟨h1, by simpa [World.setCell] using h2, h3⟩
      ·intro p hp;exact World.cell?_of_block (Below.heap_setCell _ _ _ _ (by show p.block ≠ w.heap.size; rcases hp with h | ⟨h, _⟩ <;> omega))
     have hgv := hbx.give hB hgl hmb (fun k e => (HGEN.out.own1 k e).2) (fun k e => (HGEN.out.own2 k e).2) hrp;simp only [Tm.kind, Tm.name, Tm.sort, Tm.kids, hlen] at hgv;obtain ⟨z0, z1, z2, z3, zf⟩ := qad hor.b3;have HGV := Lib.hid hgv; clear hgv hbx hrp hS hor;have HRQ := Lib.hid hr; clear hr;have HLN := Lib.hid hlen; clear hlen;go_wp2_with fail
     refine bodyPost_ret (v := .agg #[.int .i64 t.kind, .string t.name, .int .i64 t.sort, .slice A9 t.kids.length C9]) ?_ rfl ?_
     ·simp [results, Tryz.results53, go_sem, z0, z1, z2, z3]
     refine ⟨A9, C9, PA', Pc', VA', Vc', its', vts', by rw [HRQ.out]; simp only [Tm.val, Tm.kind, Tm.name, Tm.sort, Tm.kids, HLN.out], ?_⟩;rw [HRQ.out];exact HGV.out
  | false =>
  have hr := HRES1.out.trans (if_neg (by rw [← HQK.out]; decide));have HRES2 := Lib.hid hr; clear hr HRES1 HQK IH;have hpl : its.length ≤ 1000000 := by
   have h := congrArg List.length HO2.out.gen.pairs;rw [List.length_map] at h; omega
  have hpl2 : its.length = g.pairs.length := by
   have h := congrArg List.length HO2.out.gen.pairs
   rwa [List.length_map] at h
  have HPL := Lib.hid hpl2; clear hpl2;obtain ⟨A7, c7, hv7, hrep7⟩ := HO2.out.gen.row.toB (P := fun b => b < w2.heap.size) (fun b _ h _ => h) (fun b h => (HO2.out.gen.row.lt b h).2);injection hv7 with g1 g2 g3;have hpc1 := hrep7.1;have hpc2 := hrep7.2.1;unfold maxLen at hpc2;rw [List.length_map, ← g3] at hpc1;rw [← g3] at hpc2;clear g1 g2 g3 hrep7;clear a0 a1 a2 a3 af b0 b1 b2 b3 bf z0 z1 z2 z3 zf;go_wp2_with fail
  go_loopw [9] (fun a wr => ∃ k : Nat, k ≤ its.length ∧ a = .int .i64 k ∧ Hid (∀ j, (hj : j < g.pairs.length) → j < k → (decide (g.pairs[j].1 = t) && decide (g.pairs[j].2 = u)) = false) ∧ Hid (ROAt gb mb nn B N g PA VA w (boxT t T ct) (boxT u U cu) PA Pc VA Vc its vts wr)) (fun a _ => its.length - (intOf a).toNat)
  case atStart => exact ⟨0, Nat.zero_le _, rfl, fun j hj h => absurd h (Nat.not_lt_zero _), HO2.out⟩
  case round =>
   clear HO2;obtain ⟨k, hk, rfl, HNO, HO3⟩ := hrel;have i1 : (0 : Int) ≤ (k : Int) := Int.natCast_nonneg _;obtain ⟨c0, c1, c2, c3, cf⟩ := qad (show wr.heap[gb]? = some (.cells #[.slice nn.A nn.L.length nn.c, .int .i64 g.next, .slice PA its.length Pc, .slice VA vts.length Vc] 77 (0, 0)) from HO3.out.gen.cell);have hvl : vts.length = g.vars.length := by rw [← HO3.out.gen.vars, List.length_map]
   have HVL := Lib.hid hvl; clear hvl;by_cases hlt : k < its.length
   ·have i2 : (k : Int) < (its.length : Int) := by omega
    obtain ⟨pb, rfl⟩ : ∃ pb, PA = some ⟨pb, 0, none⟩ := by
     rcases HO3.out.gen.row.own.2 with ⟨-, h⟩ | ⟨pb, cap, cur, h, -⟩
     ·omega
     ·injection h with h; exact ⟨pb, h⟩
    have hkp : k < g.pairs.length := by have := HPL.out; omega
    have hbd : IB.bd its[k] = g.pairs[k] := by
     have h := congrArg (·[k]?) HO3.out.gen.pairs;simp only [List.getElem?_map, List.getElem?_eq_getElem hlt, List.getElem?_eq_getElem hkp, Option.map_some, Option.some.injEq] at h;exact h
    have hps := HPS.out g.pairs[k] (List.getElem_mem hkp);rw [← hbd] at hps;have hNX : (decide (g.pairs[k].1 = t) && decide (g.pairs[k].2 = u)) = (its[k].1.1.same t && its[k].2.1.same u) := by
     rw [← hbd];have hs : ∀ a b : Tm, a.same b = decide (a = b) := fun a b => by
      by_cases h : a = b
      ·rw [Tm.same_iff.2 h, decide_eq_true h]
      ·rw [Tm.same_false.2 h, decide_eq_false h]
     rw [hs, hs]; rfl
    have hsl := fun (Y : World) (hY : ROAt gb mb nn B N g (some ⟨pb, 0, none⟩) VA w (boxT t T ct) (boxT u U cu) (some ⟨pb, 0, none⟩) Pc VA Vc its vts Y) => hY.gen.row.slot k hlt;have hrr := fun (Y : World) (hY : ROAt gb mb nn B N g (some ⟨pb, 0, none⟩) VA w (boxT t T ct) (boxT u U cu) (some ⟨pb, 0, none⟩) Pc VA Vc its vts Y) => hY.gen.row.reps its[k] (List.getElem_mem hlt);obtain ⟨XX, hXX⟩ : ∃ XX, XX = its[k] := ⟨_, rfl⟩;rw [← hXX] at hsl hrr hNX hps;obtain ⟨⟨p, Ap, cp⟩, ⟨r, Ar, cr⟩⟩ := XX;dsimp only [IB.bd] at hsl hrr hNX hps;have HSL := Lib.hid hsl; have HRR := Lib.hid hrr; have HNX := Lib.hid hNX;have hzp := qah hps.1;have hzr := qah hps.2;clear hXX hbd hsl hrr hNX hps;obtain ⟨e0, e1, ef⟩ := HSL.out wr HO3.out;obtain ⟨a0, a1, a2, a3, af⟩ := qam t (HO3.out.b1);obtain ⟨b0, b1, b2, b3, bf⟩ := qam u (HO3.out.b2);obtain ⟨z0, z1, z2, z3, zf⟩ := qad HO3.out.b3
    go_wp2_with fail
    clear c0 c1 c2 c3 cf e0 e1 ef;clear a0 a1 a2 a3 af b0 b1 b2 b3 bf z0 z1 z2 z3 zf
    cases hq1 : p.same t with
    | false =>
     refine qal (fun _ => True) (fun Y => Below wr.drew.heap.size wr.drew Y) [] (.held 0 (.held 1 (.held 2 (.held 3 (.held 4 (.held 5 (.held 6 (.held 7 (.held 8 (.op 9 (.held 10 (.held 11 (.held 12 (.held 13 (.held 14 (.held 15 (.held 16 (.held 17 (.held 18 (.held 19 (.held 20 (.held 21 .nil)))))))))))))))))))))) mixed (by kernel_rfl) ?_;have HOD : Hid (ROAt gb mb nn B N g (some ⟨pb, 0, none⟩) VA w (boxT t T ct) (boxT u U cu) (some ⟨pb, 0, none⟩) Pc VA Vc its vts wr.drew) := Lib.hid (HO3.out.go (Below.refl _ _).drew);clear HO3;generalize wr.drew = D at *;refine qaa (v := .pointer (some ⟨gb, 0, none⟩)) rfl rfl rfl (fun _ _ _ h => h) trivial (Below.refl D.heap.size D) (fun Y _ hY => by
      (try simp only [Act.put]); go_simp) ?_
     refine qaa (v := .pointer (some ⟨gb, 0, none⟩)) rfl rfl rfl (fun _ _ _ h => h) trivial (Below.refl D.heap.size D) (fun Y _ hY => by
      (try simp only [Act.put]); go_simp) ?_
     refine qaa (v := .pointer (some ⟨gb, 2, none⟩)) rfl rfl rfl (fun _ _ _ h => h) trivial (Below.refl D.heap.size D) (fun Y _ hY => by
      (try simp only [Act.put]); go_simp) ?_
     refine qaa (v := .slice (some ⟨pb, 0, none⟩) its.length Pc) rfl rfl rfl (fun _ _ _ h => h) trivial (Below.refl D.heap.size D) (fun Y _ hY => by
      obtain ⟨y0, y1, y2, y3, -⟩ := qad (show Y.heap[gb]? = some (.cells #[.slice nn.A nn.L.length nn.c, .int .i64 g.next, .slice (some ⟨pb, 0, none⟩) its.length Pc, .slice VA vts.length Vc] 77 (0, 0)) from (HOD.out.go hY).gen.cell);clear hY
      (try simp only [Act.put]); go_simp) ?_
     (try simp only [Act.put, List.setIfInBounds_toArray, List.set_cons_succ, List.set_cons_zero, List.getElem_toArray, List.getElem_cons_succ, List.getElem_cons_zero])
     refine qaa (v := .int .i64 k) rfl rfl rfl (fun _ _ _ h => h) trivial (Below.refl D.heap.size D) (fun Y _ hY => by
      (try simp only [Act.put]); go_simp) ?_
     refine qaa (v := .pointer (some ⟨pb, k * 8, none⟩)) rfl rfl rfl (fun _ _ _ h => h) trivial (Below.refl D.heap.size D) (fun Y _ hY => by
      (try simp only [Act.put]); go_simp) ?_
     refine qaa (v := .pointer (some ⟨pb, k * 8, none⟩)) rfl rfl rfl (fun _ _ _ h => h) trivial (Below.refl D.heap.size D) (fun Y _ hY => by
      (try simp only [Act.put]); go_simp) ?_
     refine qaa (v := .agg #[.int .i64 p.kind, .string p.name, .int .i64 p.sort, .slice Ap p.kids.length cp]) rfl rfl rfl (fun _ _ _ h => h) trivial (Below.refl D.heap.size D) (fun Y _ hY => by
      obtain ⟨⟨y0, y1, y2, y3⟩, -, -⟩ := HSL.out Y (HOD.out.go hY);clear hY
      (try simp only [Act.put]); go_simp) ?_
     (try simp only [Act.put, List.setIfInBounds_toArray, List.set_cons_succ, List.set_cons_zero, List.getElem_toArray, List.getElem_cons_succ, List.getElem_cons_zero])
     refine qaa (v := .agg #[.int .i64 t.kind, .string t.name, .int .i64 t.sort, .slice T t.kids.length ct]) rfl rfl rfl (fun _ _ _ h => h) trivial (Below.refl D.heap.size D) (fun Y _ hY => by
      obtain ⟨y0, y1, y2, y3, -⟩ := qam t ((HOD.out.go hY).b1);clear hY
      (try simp only [Act.put]); go_simp) ?_
     (try simp only [Act.put, List.setIfInBounds_toArray, List.set_cons_succ, List.set_cons_zero, List.getElem_toArray, List.getElem_cons_succ, List.getElem_cons_zero])
     refine qab rfl rfl (fun K hK => ?_);have HCC := Lib.hid (qb3 p t Ap T cp ct D (by omega) (by omega) (RepP.mono (fun b hb => hb.2.1) (fun _ _ => rfl) _ _ _ (HRR.out D (HOD.out.go (Below.refl D.heap.size D))).1) (HUP.out D t T _ (HOD.out.go (Below.refl D.heap.size D)).bel (by have := (HOD.out.go (Below.refl D.heap.size D)).lt; omega) HRT.out))
     first | rw [hq1] at HCC | rw [hq2] at HCC
     (try simp only [Tm.val] at HCC)
     go_wp2_with fail
     refine HCC.out.mono ?_; clear HCC;rintro e y9 ⟨rfl, hb9⟩;have HB9 := Lib.hid (Below.trans (Below.refl D.heap.size D) (hb9.below.mono (Below.size (Below.refl D.heap.size D))));refine hK _ _ ⟨⟨fun _ => trivial, HB9.out⟩, ?_⟩;clear hK K;clear hb9;refine qaa (v := .bool false) rfl rfl rfl (fun _ _ _ h => h) trivial HB9.out (fun Y _ hY => by
      (try simp only [Act.put]); go_simp) ?_
     refine qcg rfl (by kernel_rfl) rfl (fun _ _ _ h => h) trivial HB9.out ?_
     (try simp only [Act.put, List.setIfInBounds_toArray, List.set_cons_succ, List.set_cons_zero, List.getElem_toArray, List.getElem_cons_succ, List.getElem_cons_zero])
     refine qcg rfl (by kernel_rfl) rfl (fun _ _ _ h => h) trivial HB9.out ?_
     (try simp only [Act.put, List.setIfInBounds_toArray, List.set_cons_succ, List.set_cons_zero, List.getElem_toArray, List.getElem_cons_succ, List.getElem_cons_zero])
     refine qcg rfl (by kernel_rfl) rfl (fun _ _ _ h => h) trivial HB9.out ?_
     (try simp only [Act.put, List.setIfInBounds_toArray, List.set_cons_succ, List.set_cons_zero, List.getElem_toArray, List.getElem_cons_succ, List.getElem_cons_zero])
     refine qcg rfl (by kernel_rfl) rfl (fun _ _ _ h => h) trivial HB9.out ?_
     (try simp only [Act.put, List.setIfInBounds_toArray, List.set_cons_succ, List.set_cons_zero, List.getElem_toArray, List.getElem_cons_succ, List.getElem_cons_zero])
     refine qcg rfl (by kernel_rfl) rfl (fun _ _ _ h => h) trivial HB9.out ?_
     (try simp only [Act.put, List.setIfInBounds_toArray, List.set_cons_succ, List.set_cons_zero, List.getElem_toArray, List.getElem_cons_succ, List.getElem_cons_zero])
     refine qcg rfl (by kernel_rfl) rfl (fun _ _ _ h => h) trivial HB9.out ?_
     (try simp only [Act.put, List.setIfInBounds_toArray, List.set_cons_succ, List.set_cons_zero, List.getElem_toArray, List.getElem_cons_succ, List.getElem_cons_zero])
     refine qcg rfl (by kernel_rfl) rfl (fun _ _ _ h => h) trivial HB9.out ?_
     (try simp only [Act.put, List.setIfInBounds_toArray, List.set_cons_succ, List.set_cons_zero, List.getElem_toArray, List.getElem_cons_succ, List.getElem_cons_zero])
     refine qcg rfl (by kernel_rfl) rfl (fun _ _ _ h => h) trivial HB9.out ?_
     (try simp only [Act.put, List.setIfInBounds_toArray, List.set_cons_succ, List.set_cons_zero, List.getElem_toArray, List.getElem_cons_succ, List.getElem_cons_zero])
     refine qcg rfl (by kernel_rfl) rfl (fun _ _ _ h => h) trivial HB9.out ?_
     (try simp only [Act.put, List.setIfInBounds_toArray, List.set_cons_succ, List.set_cons_zero, List.getElem_toArray, List.getElem_cons_succ, List.getElem_cons_zero])
     refine qcg rfl (by kernel_rfl) rfl (fun _ _ _ h => h) trivial HB9.out ?_
     (try simp only [Act.put, List.setIfInBounds_toArray, List.set_cons_succ, List.set_cons_zero, List.getElem_toArray, List.getElem_cons_succ, List.getElem_cons_zero])
     refine qaa (v := .bool false) rfl rfl rfl (fun _ _ _ h => h) trivial HB9.out (fun Y _ hY => by
      (try simp only [Act.put]); go_simp) ?_
     (try simp only [Act.put, List.setIfInBounds_toArray, List.set_cons_succ, List.set_cons_zero, List.getElem_toArray, List.getElem_cons_succ, List.getElem_cons_zero])
     refine qap ?_;have HO4 := Lib.hid (HOD.out.go HB9.out);clear HOD;go_wp2_with fail
     go_roundw
     case rel => exact ⟨k + 1, by omega, by go_num, fun j hj hjk => by
      by_cases h : j = k
      ·subst h; rw [HNX.out, hq1]; simp
      ·exact HNO.out j hj (by omega), HO4.out⟩
     case measure => simp [intOf]; omega
    | true =>
     cases hq2 : r.same u with
     | false =>
      refine qal (fun _ => True) (fun Y => Below wr.drew.heap.size wr.drew Y) [] (.held 0 (.held 1 (.held 2 (.held 3 (.held 4 (.held 5 (.held 6 (.held 7 (.held 8 (.op 9 (.held 10 (.held 11 (.held 12 (.held 13 (.held 14 (.held 15 (.held 16 (.held 17 (.held 18 (.held 19 (.op 20 (.held 21 .nil)))))))))))))))))))))) mixed (by kernel_rfl) ?_;have HOD : Hid (ROAt gb mb nn B N g (some ⟨pb, 0, none⟩) VA w (boxT t T ct) (boxT u U cu) (some ⟨pb, 0, none⟩) Pc VA Vc its vts wr.drew) := Lib.hid (HO3.out.go (Below.refl _ _).drew);clear HO3;generalize wr.drew = D at *;refine qaa (v := .pointer (some ⟨gb, 0, none⟩)) rfl rfl rfl (fun _ _ _ h => h) trivial (Below.refl D.heap.size D) (fun Y _ hY => by
       (try simp only [Act.put]); go_simp) ?_
      refine qaa (v := .pointer (some ⟨gb, 0, none⟩)) rfl rfl rfl (fun _ _ _ h => h) trivial (Below.refl D.heap.size D) (fun Y _ hY => by
       (try simp only [Act.put]); go_simp) ?_
      refine qaa (v := .pointer (some ⟨gb, 2, none⟩)) rfl rfl rfl (fun _ _ _ h => h) trivial (Below.refl D.heap.size D) (fun Y _ hY => by
       (try simp only [Act.put]); go_simp) ?_
      refine qaa (v := .slice (some ⟨pb, 0, none⟩) its.length Pc) rfl rfl rfl (fun _ _ _ h => h) trivial (Below.refl D.heap.size D) (fun Y _ hY => by
       obtain ⟨y0, y1, y2, y3, -⟩ := qad (show Y.heap[gb]? = some (.cells #[.slice nn.A nn.L.length nn.c, .int .i64 g.next, .slice (some ⟨pb, 0, none⟩) its.length Pc, .slice VA vts.length Vc] 77 (0, 0)) from (HOD.out.go hY).gen.cell);clear hY
       (try simp only [Act.put]); go_simp) ?_
      (try simp only [Act.put, List.setIfInBounds_toArray, List.set_cons_succ, List.set_cons_zero, List.getElem_toArray, List.getElem_cons_succ, List.getElem_cons_zero])
      refine qaa (v := .int .i64 k) rfl rfl rfl (fun _ _ _ h => h) trivial (Below.refl D.heap.size D) (fun Y _ hY => by
       (try simp only [Act.put]); go_simp) ?_
      refine qaa (v := .pointer (some ⟨pb, k * 8, none⟩)) rfl rfl rfl (fun _ _ _ h => h) trivial (Below.refl D.heap.size D) (fun Y _ hY => by
       (try simp only [Act.put]); go_simp) ?_
      refine qaa (v := .pointer (some ⟨pb, k * 8, none⟩)) rfl rfl rfl (fun _ _ _ h => h) trivial (Below.refl D.heap.size D) (fun Y _ hY => by
       (try simp only [Act.put]); go_simp) ?_
      refine qaa (v := .agg #[.int .i64 p.kind, .string p.name, .int .i64 p.sort, .slice Ap p.kids.length cp]) rfl rfl rfl (fun _ _ _ h => h) trivial (Below.refl D.heap.size D) (fun Y _ hY => by
       obtain ⟨⟨y0, y1, y2, y3⟩, -, -⟩ := HSL.out Y (HOD.out.go hY);clear hY
       (try simp only [Act.put]); go_simp) ?_
      (try simp only [Act.put, List.setIfInBounds_toArray, List.set_cons_succ, List.set_cons_zero, List.getElem_toArray, List.getElem_cons_succ, List.getElem_cons_zero])
      refine qaa (v := .agg #[.int .i64 t.kind, .string t.name, .int .i64 t.sort, .slice T t.kids.length ct]) rfl rfl rfl (fun _ _ _ h => h) trivial (Below.refl D.heap.size D) (fun Y _ hY => by
       obtain ⟨y0, y1, y2, y3, -⟩ := qam t ((HOD.out.go hY).b1);clear hY
       (try simp only [Act.put]); go_simp) ?_
      (try simp only [Act.put, List.setIfInBounds_toArray, List.set_cons_succ, List.set_cons_zero, List.getElem_toArray, List.getElem_cons_succ, List.getElem_cons_zero])
      refine qab rfl rfl (fun K hK => ?_);have HCC := Lib.hid (qb3 p t Ap T cp ct D (by omega) (by omega) (RepP.mono (fun b hb => hb.2.1) (fun _ _ => rfl) _ _ _ (HRR.out D (HOD.out.go (Below.refl D.heap.size D))).1) (HUP.out D t T _ (HOD.out.go (Below.refl D.heap.size D)).bel (by have := (HOD.out.go (Below.refl D.heap.size D)).lt; omega) HRT.out))
      first | rw [hq1] at HCC | rw [hq2] at HCC
      (try simp only [Tm.val] at HCC)
      go_wp2_with fail
      refine HCC.out.mono ?_; clear HCC;rintro e y9 ⟨rfl, hb9⟩;have HB9 := Lib.hid (Below.trans (Below.refl D.heap.size D) (hb9.below.mono (Below.size (Below.refl D.heap.size D))));refine hK _ _ ⟨⟨fun _ => trivial, HB9.out⟩, ?_⟩;clear hK K;clear hb9;refine qaa (v := .bool true) rfl rfl rfl (fun _ _ _ h => h) trivial HB9.out (fun Y _ hY => by
       (try simp only [Act.put]); go_simp) ?_
      refine qas (v := .pointer (some ⟨gb, 0, none⟩)) rfl (by kernel_rfl) rfl (fun _ _ _ h => h) trivial HB9.out (fun Y _ hY => by
       (try simp only [Act.put]); go_simp) ?_
      (try simp only [Act.put, List.setIfInBounds_toArray, List.set_cons_succ, List.set_cons_zero, List.getElem_toArray, List.getElem_cons_succ, List.getElem_cons_zero])
      refine qas (v := .pointer (some ⟨gb, 0, none⟩)) rfl (by kernel_rfl) rfl (fun _ _ _ h => h) trivial HB9.out (fun Y _ hY => by
       (try simp only [Act.put]); go_simp) ?_
      (try simp only [Act.put, List.setIfInBounds_toArray, List.set_cons_succ, List.set_cons_zero, List.getElem_toArray, List.getElem_cons_succ, List.getElem_cons_zero])
      refine qas (v := .pointer (some ⟨gb, 2, none⟩)) rfl (by kernel_rfl) rfl (fun _ _ _ h => h) trivial HB9.out (fun Y _ hY => by
       (try simp only [Act.put]); go_simp) ?_
      (try simp only [Act.put, List.setIfInBounds_toArray, List.set_cons_succ, List.set_cons_zero, List.getElem_toArray, List.getElem_cons_succ, List.getElem_cons_zero])
      refine qas (v := .slice (some ⟨pb, 0, none⟩) its.length Pc) rfl (by kernel_rfl) rfl (fun _ _ _ h => h) trivial HB9.out (fun Y _ hY => by
       obtain ⟨y0, y1, y2, y3, -⟩ := qad (show Y.heap[gb]? = some (.cells #[.slice nn.A nn.L.length nn.c, .int .i64 g.next, .slice (some ⟨pb, 0, none⟩) its.length Pc, .slice VA vts.length Vc] 77 (0, 0)) from (HOD.out.go hY).gen.cell);clear hY
       (try simp only [Act.put]); go_simp) ?_
      (try simp only [Act.put, List.setIfInBounds_toArray, List.set_cons_succ, List.set_cons_zero, List.getElem_toArray, List.getElem_cons_succ, List.getElem_cons_zero])
      refine qas (v := .int .i64 k) rfl (by kernel_rfl) rfl (fun _ _ _ h => h) trivial HB9.out (fun Y _ hY => by
       (try simp only [Act.put]); go_simp) ?_
      (try simp only [Act.put, List.setIfInBounds_toArray, List.set_cons_succ, List.set_cons_zero, List.getElem_toArray, List.getElem_cons_succ, List.getElem_cons_zero])
      refine qas (v := .pointer (some ⟨pb, k * 8, none⟩)) rfl (by kernel_rfl) rfl (fun _ _ _ h => h) trivial HB9.out (fun Y _ hY => by
       (try simp only [Act.put]); go_simp) ?_
      (try simp only [Act.put, List.setIfInBounds_toArray, List.set_cons_succ, List.set_cons_zero, List.getElem_toArray, List.getElem_cons_succ, List.getElem_cons_zero])
      refine qas (v := .pointer (some ⟨pb, k * 8 + 4, none⟩)) rfl (by kernel_rfl) rfl (fun _ _ _ h => h) trivial HB9.out (fun Y _ hY => by
       (try simp only [Act.put]); go_simp) ?_
      (try simp only [Act.put, List.setIfInBounds_toArray, List.set_cons_succ, List.set_cons_zero, List.getElem_toArray, List.getElem_cons_succ, List.getElem_cons_zero])
      refine qas (v := .agg #[.int .i64 r.kind, .string r.name, .int .i64 r.sort, .slice Ar r.kids.length cr]) rfl (by kernel_rfl) rfl (fun _ _ _ h => h) trivial HB9.out (fun Y _ hY => by
       obtain ⟨-, ⟨y0, y1, y2, y3⟩, -⟩ := HSL.out Y (HOD.out.go hY);clear hY
       (try simp only [Act.put]); go_simp) ?_
      (try simp only [Act.put, List.setIfInBounds_toArray, List.set_cons_succ, List.set_cons_zero, List.getElem_toArray, List.getElem_cons_succ, List.getElem_cons_zero])
      refine qas (v := .agg #[.int .i64 u.kind, .string u.name, .int .i64 u.sort, .slice U u.kids.length cu]) rfl (by kernel_rfl) rfl (fun _ _ _ h => h) trivial HB9.out (fun Y _ hY => by
       obtain ⟨y0, y1, y2, y3, -⟩ := qam u ((HOD.out.go hY).b2);clear hY
       (try simp only [Act.put]); go_simp) ?_
      (try simp only [Act.put, List.setIfInBounds_toArray, List.set_cons_succ, List.set_cons_zero, List.getElem_toArray, List.getElem_cons_succ, List.getElem_cons_zero])
      (try simp only [Act.put, List.setIfInBounds_toArray, List.set_cons_succ, List.set_cons_zero, List.getElem_toArray, List.getElem_cons_succ, List.getElem_cons_zero])
      refine qbm rfl (by kernel_rfl) (fun K hK => ?_);have HCC := Lib.hid (qb3 r u Ar U cr cu y9 (by omega) (by omega) (RepP.mono (fun b hb => hb.2.1) (fun _ _ => rfl) _ _ _ (HRR.out y9 (HOD.out.go HB9.out)).2) (HUP.out y9 u U _ (HOD.out.go HB9.out).bel (by have := (HOD.out.go HB9.out).lt; omega) HRU.out))
      first | rw [hq1] at HCC | rw [hq2] at HCC
      (try simp only [Tm.val] at HCC)
      go_wp2_with fail
      refine HCC.out.mono ?_; clear HCC;rintro e y20 ⟨rfl, hb20⟩;have HB20 := Lib.hid (Below.trans HB9.out (hb20.below.mono (Below.size HB9.out)));refine hK _ _ ⟨⟨fun _ => trivial, HB20.out⟩, ?_⟩;clear hK K;clear hb20;refine qaa (v := .bool false) rfl rfl rfl (fun _ _ _ h => h) trivial HB20.out (fun Y _ hY => by
       (try simp only [Act.put]); go_simp) ?_
      (try simp only [Act.put, List.setIfInBounds_toArray, List.set_cons_succ, List.set_cons_zero, List.getElem_toArray, List.getElem_cons_succ, List.getElem_cons_zero])
      (try simp only [Act.put, List.setIfInBounds_toArray, List.set_cons_succ, List.set_cons_zero, List.getElem_toArray, List.getElem_cons_succ, List.getElem_cons_zero])
      refine qap ?_;have HO4 := Lib.hid (HOD.out.go HB20.out);clear HOD;go_wp2_with fail
      go_roundw
      case rel => exact ⟨k + 1, by omega, by go_num, fun j hj hjk => by
       by_cases h : j = k
       ·subst h; rw [HNX.out, hq1, hq2]; simp
       ·exact HNO.out j hj (by omega), HO4.out⟩
      case measure => simp [intOf]; omega
     | true =>
      refine qal (fun _ => True) (fun Y => Below wr.drew.heap.size wr.drew Y) [] (.held 0 (.held 1 (.held 2 (.held 3 (.held 4 (.held 5 (.held 6 (.held 7 (.held 8 (.op 9 (.held 10 (.held 11 (.held 12 (.held 13 (.held 14 (.held 15 (.held 16 (.held 17 (.held 18 (.held 19 (.op 20 (.held 21 .nil)))))))))))))))))))))) mixed (by kernel_rfl) ?_;have HOD : Hid (ROAt gb mb nn B N g (some ⟨pb, 0, none⟩) VA w (boxT t T ct) (boxT u U cu) (some ⟨pb, 0, none⟩) Pc VA Vc its vts wr.drew) := Lib.hid (HO3.out.go (Below.refl _ _).drew);clear HO3;generalize wr.drew = D at *;refine qaa (v := .pointer (some ⟨gb, 0, none⟩)) rfl rfl rfl (fun _ _ _ h => h) trivial (Below.refl D.heap.size D) (fun Y _ hY => by
       (try simp only [Act.put]); go_simp) ?_
      refine qaa (v := .pointer (some ⟨gb, 0, none⟩)) rfl rfl rfl (fun _ _ _ h => h) trivial (Below.refl D.heap.size D) (fun Y _ hY => by
       (try simp only [Act.put]); go_simp) ?_
      refine qaa (v := .pointer (some ⟨gb, 2, none⟩)) rfl rfl rfl (fun _ _ _ h => h) trivial (Below.refl D.heap.size D) (fun Y _ hY => by
       (try simp only [Act.put]); go_simp) ?_
      refine qaa (v := .slice (some ⟨pb, 0, none⟩) its.length Pc) rfl rfl rfl (fun _ _ _ h => h) trivial (Below.refl D.heap.size D) (fun Y _ hY => by
       obtain ⟨y0, y1, y2, y3, -⟩ := qad (show Y.heap[gb]? = some (.cells #[.slice nn.A nn.L.length nn.c, .int .i64 g.next, .slice (some ⟨pb, 0, none⟩) its.length Pc, .slice VA vts.length Vc] 77 (0, 0)) from (HOD.out.go hY).gen.cell);clear hY
       (try simp only [Act.put]); go_simp) ?_
      (try simp only [Act.put, List.setIfInBounds_toArray, List.set_cons_succ, List.set_cons_zero, List.getElem_toArray, List.getElem_cons_succ, List.getElem_cons_zero])
      refine qaa (v := .int .i64 k) rfl rfl rfl (fun _ _ _ h => h) trivial (Below.refl D.heap.size D) (fun Y _ hY => by
       (try simp only [Act.put]); go_simp) ?_
      refine qaa (v := .pointer (some ⟨pb, k * 8, none⟩)) rfl rfl rfl (fun _ _ _ h => h) trivial (Below.refl D.heap.size D) (fun Y _ hY => by
       (try simp only [Act.put]); go_simp) ?_
      refine qaa (v := .pointer (some ⟨pb, k * 8, none⟩)) rfl rfl rfl (fun _ _ _ h => h) trivial (Below.refl D.heap.size D) (fun Y _ hY => by
       (try simp only [Act.put]); go_simp) ?_
      refine qaa (v := .agg #[.int .i64 p.kind, .string p.name, .int .i64 p.sort, .slice Ap p.kids.length cp]) rfl rfl rfl (fun _ _ _ h => h) trivial (Below.refl D.heap.size D) (fun Y _ hY => by
       obtain ⟨⟨y0, y1, y2, y3⟩, -, -⟩ := HSL.out Y (HOD.out.go hY);clear hY
       (try simp only [Act.put]); go_simp) ?_
      (try simp only [Act.put, List.setIfInBounds_toArray, List.set_cons_succ, List.set_cons_zero, List.getElem_toArray, List.getElem_cons_succ, List.getElem_cons_zero])
      refine qaa (v := .agg #[.int .i64 t.kind, .string t.name, .int .i64 t.sort, .slice T t.kids.length ct]) rfl rfl rfl (fun _ _ _ h => h) trivial (Below.refl D.heap.size D) (fun Y _ hY => by
       obtain ⟨y0, y1, y2, y3, -⟩ := qam t ((HOD.out.go hY).b1);clear hY
       (try simp only [Act.put]); go_simp) ?_
      (try simp only [Act.put, List.setIfInBounds_toArray, List.set_cons_succ, List.set_cons_zero, List.getElem_toArray, List.getElem_cons_succ, List.getElem_cons_zero])
      refine qab rfl rfl (fun K hK => ?_);have HCC := Lib.hid (qb3 p t Ap T cp ct D (by omega) (by omega) (RepP.mono (fun b hb => hb.2.1) (fun _ _ => rfl) _ _ _ (HRR.out D (HOD.out.go (Below.refl D.heap.size D))).1) (HUP.out D t T _ (HOD.out.go (Below.refl D.heap.size D)).bel (by have := (HOD.out.go (Below.refl D.heap.size D)).lt; omega) HRT.out))
      first | rw [hq1] at HCC | rw [hq2] at HCC
      (try simp only [Tm.val] at HCC)
      go_wp2_with fail
      refine HCC.out.mono ?_; clear HCC;rintro e y9 ⟨rfl, hb9⟩;have HB9 := Lib.hid (Below.trans (Below.refl D.heap.size D) (hb9.below.mono (Below.size (Below.refl D.heap.size D))));refine hK _ _ ⟨⟨fun _ => trivial, HB9.out⟩, ?_⟩;clear hK K;clear hb9;refine qaa (v := .bool true) rfl rfl rfl (fun _ _ _ h => h) trivial HB9.out (fun Y _ hY => by
       (try simp only [Act.put]); go_simp) ?_
      refine qas (v := .pointer (some ⟨gb, 0, none⟩)) rfl (by kernel_rfl) rfl (fun _ _ _ h => h) trivial HB9.out (fun Y _ hY => by
       (try simp only [Act.put]); go_simp) ?_
      (try simp only [Act.put, List.setIfInBounds_toArray, List.set_cons_succ, List.set_cons_zero, List.getElem_toArray, List.getElem_cons_succ, List.getElem_cons_zero])
      refine qas (v := .pointer (some ⟨gb, 0, none⟩)) rfl (by kernel_rfl) rfl (fun _ _ _ h => h) trivial HB9.out (fun Y _ hY => by
       (try simp only [Act.put]); go_simp) ?_
      (try simp only [Act.put, List.setIfInBounds_toArray, List.set_cons_succ, List.set_cons_zero, List.getElem_toArray, List.getElem_cons_succ, List.getElem_cons_zero])
      refine qas (v := .pointer (some ⟨gb, 2, none⟩)) rfl (by kernel_rfl) rfl (fun _ _ _ h => h) trivial HB9.out (fun Y _ hY => by
       (try simp only [Act.put]); go_simp) ?_
      (try simp only [Act.put, List.setIfInBounds_toArray, List.set_cons_succ, List.set_cons_zero, List.getElem_toArray, List.getElem_cons_succ, List.getElem_cons_zero])
      refine qas (v := .slice (some ⟨pb, 0, none⟩) its.length Pc) rfl (by kernel_rfl) rfl (fun _ _ _ h => h) trivial HB9.out (fun Y _ hY => by
       obtain ⟨y0, y1, y2, y3, -⟩ := qad (show Y.heap[gb]? = some (.cells #[.slice nn.A nn.L.length nn.c, .int .i64 g.next, .slice (some ⟨pb, 0, none⟩) its.length Pc, .slice VA vts.length Vc] 77 (0, 0)) from (HOD.out.go hY).gen.cell);clear hY
       (try simp only [Act.put]); go_simp) ?_
      (try simp only [Act.put, List.setIfInBounds_toArray, List.set_cons_succ, List.set_cons_zero, List.getElem_toArray, List.getElem_cons_succ, List.getElem_cons_zero])
      refine qas (v := .int .i64 k) rfl (by kernel_rfl) rfl (fun _ _ _ h => h) trivial HB9.out (fun Y _ hY => by
       (try simp only [Act.put]); go_simp) ?_
      (try simp only [Act.put, List.setIfInBounds_toArray, List.set_cons_succ, List.set_cons_zero, List.getElem_toArray, List.getElem_cons_succ, List.getElem_cons_zero])
      refine qas (v := .pointer (some ⟨pb, k * 8, none⟩)) rfl (by kernel_rfl) rfl (fun _ _ _ h => h) trivial HB9.out (fun Y _ hY => by
       (try simp only [Act.put]); go_simp) ?_
      (try simp only [Act.put, List.setIfInBounds_toArray, List.set_cons_succ, List.set_cons_zero, List.getElem_toArray, List.getElem_cons_succ, List.getElem_cons_zero])
      refine qas (v := .pointer (some ⟨pb, k * 8 + 4, none⟩)) rfl (by kernel_rfl) rfl (fun _ _ _ h => h) trivial HB9.out (fun Y _ hY => by
       (try simp only [Act.put]); go_simp) ?_
      (try simp only [Act.put, List.setIfInBounds_toArray, List.set_cons_succ, List.set_cons_zero, List.getElem_toArray, List.getElem_cons_succ, List.getElem_cons_zero])
      refine qas (v := .agg #[.int .i64 r.kind, .string r.name, .int .i64 r.sort, .slice Ar r.kids.length cr]) rfl (by kernel_rfl) rfl (fun _ _ _ h => h) trivial HB9.out (fun Y _ hY => by
       obtain ⟨-, ⟨y0, y1, y2, y3⟩, -⟩ := HSL.out Y (HOD.out.go hY);clear hY
       (try simp only [Act.put]); go_simp) ?_
      (try simp only [Act.put, List.setIfInBounds_toArray, List.set_cons_succ, List.set_cons_zero, List.getElem_toArray, List.getElem_cons_succ, List.getElem_cons_zero])
      refine qas (v := .agg #[.int .i64 u.kind, .string u.name, .int .i64 u.sort, .slice U u.kids.length cu]) rfl (by kernel_rfl) rfl (fun _ _ _ h => h) trivial HB9.out (fun Y _ hY => by
       obtain ⟨y0, y1, y2, y3, -⟩ := qam u ((HOD.out.go hY).b2);clear hY
       (try simp only [Act.put]); go_simp) ?_
      (try simp only [Act.put, List.setIfInBounds_toArray, List.set_cons_succ, List.set_cons_zero, List.getElem_toArray, List.getElem_cons_succ, List.getElem_cons_zero])
      (try simp only [Act.put, List.setIfInBounds_toArray, List.set_cons_succ, List.set_cons_zero, List.getElem_toArray, List.getElem_cons_succ, List.getElem_cons_zero])
      refine qbm rfl (by kernel_rfl) (fun K hK => ?_);have HCC := Lib.hid (qb3 r u Ar U cr cu y9 (by omega) (by omega) (RepP.mono (fun b hb => hb.2.1) (fun _ _ => rfl) _ _ _ (HRR.out y9 (HOD.out.go HB9.out)).2) (HUP.out y9 u U _ (HOD.out.go HB9.out).bel (by have := (HOD.out.go HB9.out).lt; omega) HRU.out))
      first | rw [hq1] at HCC | rw [hq2] at HCC
      (try simp only [Tm.val] at HCC)
      go_wp2_with fail
      refine HCC.out.mono ?_; clear HCC;rintro e y20 ⟨rfl, hb20⟩;have HB20 := Lib.hid (Below.trans HB9.out (hb20.below.mono (Below.size HB9.out)));refine hK _ _ ⟨⟨fun _ => trivial, HB20.out⟩, ?_⟩;clear hK K;clear hb20;refine qaa (v := .bool true) rfl rfl rfl (fun _ _ _ h => h) trivial HB20.out (fun Y _ hY => by
       (try simp only [Act.put]); go_simp) ?_
      (try simp only [Act.put, List.setIfInBounds_toArray, List.set_cons_succ, List.set_cons_zero, List.getElem_toArray, List.getElem_cons_succ, List.getElem_cons_zero])
      (try simp only [Act.put, List.setIfInBounds_toArray, List.set_cons_succ, List.set_cons_zero, List.getElem_toArray, List.getElem_cons_succ, List.getElem_cons_zero])
      refine qap ?_;have HO4 := Lib.hid (HOD.out.go HB20.out);clear HOD;have hlook := qc0 g.pairs g.vars k HOK.out.len (.inr ⟨k, rfl, hkp, by show (decide _ && decide _) = true; rw [HNX.out, hq1, hq2]; rfl, fun j hj hjk => HNO.out j hj hjk⟩);rcases hlook with ⟨h, -⟩ | ⟨i, hi, hki, hsome⟩
      ·omega
      obtain rfl : k = i := by omega
      have hi2 : k < vts.length := by have := HVL.out; omega
      have hr : res = (g.vars[k], g) := by rw [HRES2.out]; unfold qbz; rw [hsome]
      have hvi : (vts[k]).1 = g.vars[k] := by
       have h := congrArg (·[k]?) HO4.out.gen.vars;simp only [List.getElem?_map, List.getElem?_eq_getElem hi2, List.getElem?_eq_getElem hi, Option.map_some, Option.some.injEq] at h;exact h
      rw [← hvi] at hr;have hpos : 0 < vts.length := by omega
      obtain ⟨vb, rfl⟩ : ∃ vb, VA = some ⟨vb, 0, none⟩ := by
       rcases HO4.out.gen.vrow.own.2 with ⟨-, h⟩ | ⟨vb, cap, cur, h, -⟩
       ·omega
       ·injection h with h; exact ⟨vb, h⟩
      obtain ⟨m0, m1, m2, m3, -⟩ := HO4.out.gen.vrow.slot rfl k hi2;have hrep := HO4.out.gen.vrow.reps vts[k] (List.getElem_mem hi2);obtain ⟨x, hx⟩ : ∃ x, x = vts[k] := ⟨_, rfl⟩;rw [← hx] at m0 m1 m2 m3 hrep hr;obtain ⟨v, Av, cv⟩ := x;dsimp only at m0 m1 m2 m3 hrep hr;have HR := Lib.hid hr; clear hr;have i4 : (k : Int) < (vts.length : Int) := by omega
      have HREP := Lib.hid hrep; clear hrep hvi hsome hx hq1 hq2;obtain ⟨c0, c1, c2, c3, cf⟩ := qad (show y20.heap[gb]? = some (.cells #[.slice nn.A nn.L.length nn.c, .int .i64 g.next, .slice (some ⟨pb, 0, none⟩) its.length Pc, .slice (some ⟨vb, 0, none⟩) vts.length Vc] 77 (0, 0)) from HO4.out.gen.cell);obtain ⟨z0, z1, z2, z3, zf⟩ := qad HO4.out.b3;go_wp2_with fail
      refine bodyPost_ret (v := .agg #[.int .i64 v.kind, .string v.name, .int .i64 v.sort, .slice Av v.kids.length cv]) ?_ rfl ?_
      ·simp [results, Tryz.results53, go_sem, z0, z1, z2, z3]
      refine ⟨Av, cv, some ⟨pb, 0, none⟩, Pc, some ⟨vb, 0, none⟩, Vc, its, vts, by rw [HR.out]; rfl, ?_⟩;rw [HR.out];exact HO4.out.give hB hgl hmb (fun k e => (HGEN.out.own1 k e).2) (fun k e => (HGEN.out.own2 k e).2) (RepP.mono (fun b hb => False.elim hb.1) (fun _ _ => rfl) _ _ _ HREP.out)
   ·obtain rfl : k = its.length := by omega
    have hlook := qc0 g.pairs g.vars (-1) HOK.out.len (.inl ⟨by decide, fun b hb => by
     obtain ⟨j, hj, rfl⟩ := List.getElem_of_mem hb;exact HNO.out j hj (by have := HPL.out; omega)⟩)
    rcases hlook with ⟨-, hnone⟩ | ⟨i, -, hki, -⟩
    rotate_left
    ·omega
    have hr : res = (newG N t u g, addG N t u g) := by rw [HRES2.out]; unfold qbz; rw [hnone]
    have HR := Lib.hid hr; clear hr hnone HRES2 HNO;generalize wr = w3 at *;obtain ⟨F, hF⟩ : ∃ F, F = qa9 N g.next := ⟨_, rfl⟩;have hFM : F < M := by
     have h1 := (qbq N g.next).2.1;rw [← hF] at h1;have h2 := HOK.out.next;have h3 := Nat.mul_le_mul_left (N.length + 1) (show g.pairs.length + 1 ≤ g.pairs.length + t.size by have := t.size_pos; omega);rw [Nat.mul_succ] at h3;have h4 := HBD.out;omega
    have hFN : g.next + nn.L.length < 999999 := by
     have h2 := HOK.out.next;have h3 := Nat.mul_le_mul_left (N.length + 1) (show g.pairs.length + 1 ≤ g.pairs.length + t.size by have := t.size_pos; omega);rw [Nat.mul_succ] at h3;have h4 := HBD.out;have h5 := congrArg List.length HO3.out.gen.set.2.1;rw [List.length_map] at h5;omega
    have HFR : Hid (∀ X : World, gb < X.heap.size → RepS X (fun b => b ≤ mb) nn.L nn.A nn.c → Calls Tryz.prog 58 #[.slice nn.A nn.L.length nn.c, .int .i64 g.next] X fun e w' => e = .returned (.tuple #[.string (qax F), .int .i64 ((F : Int) + 1)]) ∧ Below X.heap.size X w') := Lib.hid fun X hgX hX => by
     have hN := HO3.out.gen.set.2.1;have h := qma nn.L nn.A nn.c g.next X hFN (RepS.mono (fun b (hb : b ≤ mb) => by show b < _; omega) (fun _ _ => rfl) hX);rw [← hN, ← hF] at h;exact h
    have HFE := Lib.hid hF; clear hF;have hgs := qfk F (by omega);have hvl2 : vts.length + 1 ≤ 100000000 := by have := HVL.out; have := HOK.out.len; omega
    go_wp2_with fail
    clear c0 c1 c2 c3 cf;refine qal (fun _ => True) (fun Y => Below w3.drew.heap.size w3.drew Y) [] (.held 0 (.held 1 (.held 2 (.held 3 (.held 4 (.held 5 (.held 6 (.held 7 (.op 8 (.held 9 (.held 10 (.held 11 (.held 12 (.held 13 .nil)))))))))))))) mixed (by kernel_rfl) ?_;have HOD0 : Hid (ROAt gb mb nn B N g PA VA w (boxT t T ct) (boxT u U cu) PA Pc VA Vc its vts w3.drew) := Lib.hid (HO3.out.go (Below.refl _ _).drew);clear HO3;generalize w3.drew = D at *;refine qaa (v := .pointer (some ⟨gb, 0, none⟩)) rfl rfl rfl (fun _ _ _ h => h) trivial (Below.refl D.heap.size D) (fun Y _ hY => by
     (try simp only [Act.put]); go_simp) ?_
    refine qaa (v := .pointer (some ⟨gb, 0, none⟩)) rfl rfl rfl (fun _ _ _ h => h) trivial (Below.refl D.heap.size D) (fun Y _ hY => by
     (try simp only [Act.put]); go_simp) ?_
    refine qaa (v := .pointer (some ⟨gb, 0, none⟩)) rfl rfl rfl (fun _ _ _ h => h) trivial (Below.refl D.heap.size D) (fun Y _ hY => by
     (try simp only [Act.put]); go_simp) ?_
    refine qaa (v := .slice nn.A nn.L.length nn.c) rfl rfl rfl (fun _ _ _ h => h) trivial (Below.refl D.heap.size D) (fun Y _ hY => by
     obtain ⟨y0, y1, y2, y3, -⟩ := qad (show Y.heap[gb]? = some (.cells #[.slice nn.A nn.L.length nn.c, .int .i64 g.next, .slice PA its.length Pc, .slice VA vts.length Vc] 77 (0, 0)) from (HOD0.out.go hY).gen.cell);clear hY
     (try simp only [Act.put]); go_simp) ?_
    (try simp only [Act.put, List.setIfInBounds_toArray, List.set_cons_succ, List.set_cons_zero, List.getElem_toArray, List.getElem_cons_succ, List.getElem_cons_zero])
    refine qaa (v := .pointer (some ⟨gb, 0, none⟩)) rfl rfl rfl (fun _ _ _ h => h) trivial (Below.refl D.heap.size D) (fun Y _ hY => by
     (try simp only [Act.put]); go_simp) ?_
    refine qaa (v := .pointer (some ⟨gb, 0, none⟩)) rfl rfl rfl (fun _ _ _ h => h) trivial (Below.refl D.heap.size D) (fun Y _ hY => by
     (try simp only [Act.put]); go_simp) ?_
    refine qaa (v := .pointer (some ⟨gb, 1, none⟩)) rfl rfl rfl (fun _ _ _ h => h) trivial (Below.refl D.heap.size D) (fun Y _ hY => by
     (try simp only [Act.put]); go_simp) ?_
    refine qaa (v := .int .i64 g.next) rfl rfl rfl (fun _ _ _ h => h) trivial (Below.refl D.heap.size D) (fun Y _ hY => by
     obtain ⟨y0, y1, y2, y3, -⟩ := qad (show Y.heap[gb]? = some (.cells #[.slice nn.A nn.L.length nn.c, .int .i64 g.next, .slice PA its.length Pc, .slice VA vts.length Vc] 77 (0, 0)) from (HOD0.out.go hY).gen.cell);clear hY
     (try simp only [Act.put]); go_simp) ?_
    (try simp only [Act.put, List.setIfInBounds_toArray, List.set_cons_succ, List.set_cons_zero, List.getElem_toArray, List.getElem_cons_succ, List.getElem_cons_zero])
    (try simp only [Act.put, List.setIfInBounds_toArray, List.set_cons_succ, List.set_cons_zero, List.getElem_toArray, List.getElem_cons_succ, List.getElem_cons_zero])
    refine qab rfl rfl (fun K hK => ?_);have HCC := Lib.hid (HFR.out D (HOD0.out.go (Below.refl D.heap.size D)).gen.lt (HOD0.out.go (Below.refl D.heap.size D)).gen.set.1)
    (try simp only [castV, Tm.val] at HCC)
    go_wp2_with fail
    refine HCC.out.mono ?_; clear HCC;rintro e y8 ⟨rfl, hb8⟩;have HB8 := Lib.hid (Below.trans (Below.refl D.heap.size D) (hb8.mono (Below.size (Below.refl D.heap.size D))));refine hK _ _ ⟨⟨fun _ => trivial, HB8.out⟩, ?_⟩;clear hK K;clear hb8;refine qaa (v := .tuple #[.string (qax F), .int .i64 ((F : Int) + 1)]) rfl rfl rfl (fun _ _ _ h => h) trivial HB8.out (fun Y _ hY => by
     (try simp only [Act.put]); go_simp) ?_
    refine qaa (v := .string (qax F)) rfl rfl rfl (fun _ _ _ h => h) trivial HB8.out (fun Y _ hY => by
     (try simp only [Act.put]); go_simp) ?_
    refine qaa (v := .int .i64 ((F : Int) + 1)) rfl rfl rfl (fun _ _ _ h => h) trivial HB8.out (fun Y _ hY => by
     (try simp only [Act.put]); go_simp) ?_
    refine qaa (v := .string (qax F)) rfl rfl rfl (fun _ _ _ h => h) trivial HB8.out (fun Y _ hY => by
     (try simp only [Act.put]); go_simp) ?_
    (try simp only [Act.put, List.setIfInBounds_toArray, List.set_cons_succ, List.set_cons_zero, List.getElem_toArray, List.getElem_cons_succ, List.getElem_cons_zero])
    refine qaa (v := .int .i64 ((F : Int) + 1)) rfl rfl rfl (fun _ _ _ h => h) trivial HB8.out (fun Y _ hY => by
     (try simp only [Act.put]); go_simp) ?_
    (try simp only [Act.put, List.setIfInBounds_toArray, List.set_cons_succ, List.set_cons_zero, List.getElem_toArray, List.getElem_cons_succ, List.getElem_cons_zero])
    refine qap ?_;have HO5 := Lib.hid (HOD0.out.go HB8.out);clear HOD0;obtain ⟨c0, c1, c2, c3, cf⟩ := qad (show y8.heap[gb]? = some (.cells #[.slice nn.A nn.L.length nn.c, .int .i64 g.next, .slice PA its.length Pc, .slice VA vts.length Vc] 77 (0, 0)) from HO5.out.gen.cell);go_upto_region 18 with fail
    obtain ⟨w4, hw4⟩ : ∃ w4, w4 = y8.setCell ⟨gb, 1, none⟩ (.int .i64 ((F : Int) + 1)) := ⟨_, rfl⟩;rw [← hw4];have HO4 : Hid (ROAt gb mb nn B N { g with next := F + 1 } PA VA w (boxT t T ct) (boxT u U cu) PA Pc VA Vc its vts w4) := Lib.hid (by rw [hw4]; exact HO5.out.next hBm hmb hgl (F + 1));clear HO5 hw4 c0 c1 c2 c3 cf;rcases eq_facts t.sort u.sort with ⟨s0, s1, s2⟩ | ⟨s0, s1, s2⟩
    ·skip
     obtain ⟨a0, a1, a2, a3, af⟩ := qam t (HO4.out.b1);obtain ⟨b0, b1, b2, b3, bf⟩ := qam u (HO4.out.b2);obtain ⟨z0, z1, z2, z3, zf⟩ := qad HO4.out.b3;have hxv : newG N t u g = .mk 1 (qax F) t.sort [] := by unfold newG; rw [if_pos s0, HFE.out]
     have S0 := Lib.hid s0; clear s0;obtain ⟨x, hx⟩ : ∃ x, x = Tm.mk 1 (qax F) t.sort [] := ⟨_, rfl⟩;rw [← hx] at hxv;have hxk : x.kids = [] := by rw [hx]; rfl
     have hxn : x.name.size ≤ maxLen := by rw [hx]; show (qax F).size ≤ maxLen; unfold maxLen; omega
     have HXE := Lib.hid hx;have HXK := Lib.hid hxk; clear hxk;have HXN := Lib.hid hxn; clear hxn;have HXV := Lib.hid hxv; clear hxv;clear hx;obtain ⟨W5, hW5⟩ : ∃ W5, W5 = w4.alloc (boxT x none 0) := ⟨_, rfl⟩;have hb5 : Below w4.heap.size w4 W5 := by rw [hW5]; exact qaf (Nat.le_refl _) _
     have hx5 : W5.heap[w4.heap.size]? = some (boxT x none 0) := by rw [hW5]; exact heap_alloc_new _ _
     have hs5 : w4.heap.size < W5.heap.size := by rw [hW5]; simp
     have HOD : Hid (ROAt gb mb nn B N { g with next := F + 1 } PA VA w (boxT t T ct) (boxT u U cu) PA Pc VA Vc its vts W5.drew) := (HO4.out.go hb5).go (Below.refl _ _).drew;have HX5 : Hid (W5.drew.heap[w4.heap.size]? = some (boxT x none 0)) := hx5;have hxbw : w.heap.size + 3 ≤ w4.heap.size := HO4.out.lt;have hW5' : W5 = w4.alloc (.cells #[.int .i64 1, .string (qax F), .int .i64 (t.sort), .slice none 0 0] 24) := by rw [hW5, HXE.out]; rfl
     have HW5 := Lib.hid hW5'; clear hW5 hW5' hx5 hb5 HO4;obtain ⟨xb, hxb⟩ : ∃ xb, xb = w4.heap.size := ⟨_, rfl⟩;go_wp2_with fail
     clear a0 a1 a2 a3 af b0 b1 b2 b3 bf z0 z1 z2 z3 zf;rw [← HW5.out, ← hxb];rw [← hxb] at HX5 hs5 hxbw;have HSD : Hid (W5.drew.heap.size = W5.heap.size) := rfl;clear hxb;have hnp : ∀ k, ownA PA = some k → k < w.heap.size ∧ gb < k := fun k e => by have := HGEN.out.own1 k e; omega
     have hnv : ∀ k, ownA VA = some k → k < w.heap.size ∧ gb < k := fun k e => by have := HGEN.out.own2 k e; omega
     have hxb4 : w.heap.size + 3 ≤ xb := hxbw;have m1 : ownA PA ≠ some gb ∧ ownA VA ≠ some gb := ⟨fun e => by have := hnp _ e; omega, fun e => by have := hnv _ e; omega⟩;have m2 : ownA PA ≠ some w.heap.size ∧ ownA VA ≠ some w.heap.size := ⟨fun e => by have := hnp _ e; omega, fun e => by have := hnv _ e; omega⟩;have m3 : ownA PA ≠ some (w.heap.size + 1) ∧ ownA VA ≠ some (w.heap.size + 1) := ⟨fun e => by have := hnp _ e; omega, fun e => by have := hnv _ e; omega⟩;have m4 : ownA PA ≠ some xb ∧ ownA VA ≠ some xb := ⟨fun e => by have := hnp _ e; omega, fun e => by have := hnv _ e; omega⟩;have hG0 : RGrown2 gb B PA VA W5.drew PA Pc VA Vc its vts W5.drew := ⟨fun _ _ _ _ => rfl, Nat.le_refl _, Below.refl _ _, HOD.out.gen.row, HOD.out.gen.vrow, fun k e => .inl e, fun k e => .inl e, HOD.out.gen.apart⟩;obtain ⟨a0, a1, a2, a3, -⟩ := qam t (HOD.out.b1)
     obtain ⟨b0, b1, b2, b3, -⟩ := qam u (HOD.out.b2);obtain ⟨c0, c1, c2, c3, -⟩ := qad (show W5.drew.heap[gb]? = some (.cells #[.slice nn.A nn.L.length nn.c, .int .i64 ((F + 1 : Nat) : Int), .slice PA its.length Pc, .slice VA vts.length Vc] 77 (0, 0)) from HOD.out.gen.cell);obtain ⟨d0, d1, d2, d3, -⟩ := qam x (HX5.out);have hgD := HOD.out.gen.lt;have hlD := HOD.out.lt;have hxD : xb < W5.drew.heap.size := (Array.getElem?_eq_some_iff.1 HX5.out).1;have HG0 := Lib.hid hG0; clear hG0
     refine qal (fun Y => Y.cell? ⟨gb, 2, none⟩ = W5.drew.cell? ⟨gb, 2, none⟩ ∧ Y.cell? ⟨gb, 3, none⟩ = W5.drew.cell? ⟨gb, 3, none⟩) (fun Y => ∀ p : Addr, p.block < W5.drew.heap.size → p.block ≠ gb → ownA PA ≠ some p.block → ownA VA ≠ some p.block → Y.cell? p = W5.drew.cell? p) [1, 11, 12, 13, 15, 20, 21, 22, 23] (.held 1 (.held 11 (.held 12 (.held 13 (.held 15 (.held 0 (.held 2 (.held 3 (.held 4 (.held 5 (.held 6 (.held 7 (.held 8 (.held 14 (.two 9 16 (.two 10 16 (.op 16 (.op 17 (.op 18 (.op 19 (.op 20 (.op 21 (.op 22 (.op 23 .nil)))))))) (.op 10 (.op 17 (.op 18 (.op 19 (.op 20 (.op 21 (.op 22 (.op 23 .nil))))))))) (.op 9 (.op 10 (.op 17 (.op 18 (.op 19 (.op 20 (.op 21 (.op 22 (.op 23 .nil)))))))))))))))))))))))) mixed (by kernel_rfl) ?_;generalize W5.drew = D at *
     refine qaz (v := .pointer (some ⟨gb, 0, none⟩)) rfl rfl rfl (fun _ _ _ h => h) (fun _ _ _ _ _ => rfl) (fun Y hY => by
      (try simp only [Act.put]); go_simp) ?_
     refine qaz (v := .pointer (some ⟨gb, 0, none⟩)) rfl rfl rfl (fun _ _ _ h => h) (fun _ _ _ _ _ => rfl) (fun Y hY => by
      (try simp only [Act.put]); go_simp) ?_
     refine qaz (v := .pointer (some ⟨gb, 0, none⟩)) rfl rfl rfl (fun _ _ _ h => h) (fun _ _ _ _ _ => rfl) (fun Y hY => by
      (try simp only [Act.put]); go_simp) ?_
     refine qaz (v := .pointer (some ⟨gb, 3, none⟩)) rfl rfl rfl (fun _ _ _ h => h) (fun _ _ _ _ _ => rfl) (fun Y hY => by
      (try simp only [Act.put]); go_simp) ?_
     refine qaz (v := .agg #[.int .i64 x.kind, .string x.name, .int .i64 x.sort, .slice none x.kids.length 0]) rfl rfl rfl (fun _ _ _ h => h) (fun _ _ _ _ _ => rfl) (fun Y hY => by
      have z0 := (hY ⟨xb, 0, none⟩ (by show xb < _; omega) (by show xb ≠ gb; omega) (m4.1) (m4.2)).trans d0;have z1 := (hY ⟨xb, 1, none⟩ (by show xb < _; omega) (by show xb ≠ gb; omega) (m4.1) (m4.2)).trans d1;have z2 := (hY ⟨xb, 2, none⟩ (by show xb < _; omega) (by show xb ≠ gb; omega) (m4.1) (m4.2)).trans d2;have z3 := (hY ⟨xb, 3, none⟩ (by show xb < _; omega) (by show xb ≠ gb; omega) (m4.1) (m4.2)).trans d3
      (try simp only [Act.put]); go_simp) ?_
     refine qaa (v := .pointer (some ⟨gb, 0, none⟩)) rfl rfl rfl (fun _ _ _ h => h) ⟨rfl, rfl⟩ (fun _ _ _ _ _ => rfl) (fun Y hY2 hY => by
      (try simp only [Act.put]); go_simp) ?_
     refine qaa (v := .pointer (some ⟨gb, 0, none⟩)) rfl rfl rfl (fun _ _ _ h => h) ⟨rfl, rfl⟩ (fun _ _ _ _ _ => rfl) (fun Y hY2 hY => by
      (try simp only [Act.put]); go_simp) ?_
     refine qaa (v := .pointer (some ⟨gb, 0, none⟩)) rfl rfl rfl (fun _ _ _ h => h) ⟨rfl, rfl⟩ (fun _ _ _ _ _ => rfl) (fun Y hY2 hY => by
      (try simp only [Act.put]); go_simp) ?_
     refine qaa (v := .pointer (some ⟨gb, 2, none⟩)) rfl rfl rfl (fun _ _ _ h => h) ⟨rfl, rfl⟩ (fun _ _ _ _ _ => rfl) (fun Y hY2 hY => by
      (try simp only [Act.put]); go_simp) ?_
     refine qaa (v := .slice PA its.length Pc) rfl rfl rfl (fun _ _ _ h => h) ⟨rfl, rfl⟩ (fun _ _ _ _ _ => rfl) (fun Y hY2 hY => by
      have z0 := hY2.1.trans c2
      (try simp only [Act.put]); go_simp) ?_
     refine qaa (v := .agg #[.int .i64 t.kind, .string t.name, .int .i64 t.sort, .slice T t.kids.length ct]) rfl rfl rfl (fun _ _ _ h => h) ⟨rfl, rfl⟩ (fun _ _ _ _ _ => rfl) (fun Y hY2 hY => by
      have z0 := (hY ⟨w.heap.size, 0, none⟩ (by show w.heap.size < _; omega) (by show w.heap.size ≠ gb; omega) (m2.1) (m2.2)).trans a0;have z1 := (hY ⟨w.heap.size, 1, none⟩ (by show w.heap.size < _; omega) (by show w.heap.size ≠ gb; omega) (m2.1) (m2.2)).trans a1;have z2 := (hY ⟨w.heap.size, 2, none⟩ (by show w.heap.size < _; omega) (by show w.heap.size ≠ gb; omega) (m2.1) (m2.2)).trans a2;have z3 := (hY ⟨w.heap.size, 3, none⟩ (by show w.heap.size < _; omega) (by show w.heap.size ≠ gb; omega) (m2.1) (m2.2)).trans a3
      (try simp only [Act.put]); go_simp) ?_
     refine qaa (v := .agg #[.int .i64 u.kind, .string u.name, .int .i64 u.sort, .slice U u.kids.length cu]) rfl rfl rfl (fun _ _ _ h => h) ⟨rfl, rfl⟩ (fun _ _ _ _ _ => rfl) (fun Y hY2 hY => by
      have z0 := (hY ⟨w.heap.size + 1, 0, none⟩ (by show w.heap.size + 1 < _; omega) (by show w.heap.size + 1 ≠ gb; omega) (m3.1) (m3.2)).trans b0;have z1 := (hY ⟨w.heap.size + 1, 1, none⟩ (by show w.heap.size + 1 < _; omega) (by show w.heap.size + 1 ≠ gb; omega) (m3.1) (m3.2)).trans b1;have z2 := (hY ⟨w.heap.size + 1, 2, none⟩ (by show w.heap.size + 1 < _; omega) (by show w.heap.size + 1 ≠ gb; omega) (m3.1) (m3.2)).trans b2;have z3 := (hY ⟨w.heap.size + 1, 3, none⟩ (by show w.heap.size + 1 < _; omega) (by show w.heap.size + 1 ≠ gb; omega) (m3.1) (m3.2)).trans b3
      (try simp only [Act.put]); go_simp) ?_
     refine qaa (v := .agg #[.int .i64 t.kind, .string t.name, .int .i64 t.sort, .slice T t.kids.length ct, .int .i64 u.kind, .string u.name, .int .i64 u.sort, .slice U u.kids.length cu]) rfl rfl rfl (fun _ _ _ h => h) ⟨rfl, rfl⟩ (fun _ _ _ _ _ => rfl) (fun Y hY2 hY => by
      (try simp only [Act.put]); go_simp) ?_
     refine qaa (v := .slice VA vts.length Vc) rfl rfl rfl (fun _ _ _ h => h) ⟨rfl, rfl⟩ (fun _ _ _ _ _ => rfl) (fun Y hY2 hY => by
      have z0 := hY2.2.trans c3
      (try simp only [Act.put]); go_simp) ?_
     simp only [Act.put, List.setIfInBounds_toArray];clear a0 a1 a2 a3 b0 b1 b2 b3 c0 c1 c2 c3 d0 d1 d2 d3;have hG0 := HG0.out;refine qbg ?_ ?_
     ·skip
      refine qab rfl rfl (fun K hK => ?_);go_wp2_with fail
      obtain ⟨W1, hM⟩ : ∃ M, M = D.alloc (.cells #[.int .i64 t.kind, .string t.name, .int .i64 t.sort, .slice T t.kids.length ct, .int .i64 u.kind, .string u.name, .int .i64 u.sort, .slice U u.kids.length cu] 57) := ⟨_, rfl⟩;have hbc : Below D.heap.size D W1 := by rw [hM]; exact qaf (Nat.le_refl _) _
      have hsz1 : D.heap.size < W1.heap.size := by rw [hM]; simp
      have hz8 : W1.heap[D.heap.size]? = some (.cells (bCells [((t, T, ct), (u, U, cu))]).toArray 57 (0, 0)) := by rw [hM]; exact heap_alloc_new _ _
      rw [← hM];clear hM;have hG1 := hG0.alloc hgD hbc;refine ⟨⟨fun _ => ⟨World.cell?_of_block (hG1.same gb hgD m1.1 m1.2), World.cell?_of_block (hG1.same gb hgD m1.1 m1.2)⟩, fun p hp _ h1 h2 => World.cell?_of_block (hG1.same _ hp h1 h2)⟩, ?_⟩;clear hbc;refine qbg ?_ ?_
      ·skip
       obtain ⟨g9, c9, W2, hap1, hG2, hk2, hsz2⟩ := hG1.push1 hgD (by omega) ((t, T, ct), (u, U, cu)) (D.heap.size) hz8 (RepP.mono (fun _ h => h) (fun p (hp : p.block < B) => (hG1.bel.cell (by omega)).trans (HOD.out.bel.cell (by omega))) _ _ _ HRT.out) (RepP.mono (fun _ h => h) (fun p (hp : p.block < B) => (hG1.bel.cell (by omega)).trans (HOD.out.bel.cell (by omega))) _ _ _ HRU.out) (by omega);refine qab rfl rfl (fun K hK => ?_);refine qag (by rfl) (.tmp 115) (.tmp 119) (by rfl) (by rfl) (by rfl) hap1 ?_;refine hK _ _ ⟨⟨fun _ => ⟨World.cell?_of_block (hG2.same gb hgD m1.1 m1.2), World.cell?_of_block (hG2.same gb hgD m1.1 m1.2)⟩, fun p hp _ h1 h2 => World.cell?_of_block (hG2.same _ hp h1 h2)⟩, ?_⟩;clear hK K hap1;simp only [Act.put, List.setIfInBounds_toArray];refine qab rfl rfl (fun K hK => ?_);go_wp2_with fail
       obtain ⟨W3, hM⟩ : ∃ M, M = W2.alloc (.cells #[.int .i64 x.kind, .string x.name, .int .i64 x.sort, .slice none x.kids.length 0] 24) := ⟨_, rfl⟩;have hbc : Below W2.heap.size W2 W3 := by rw [hM]; exact qaf (Nat.le_refl _) _
       have hsz3 : W2.heap.size < W3.heap.size := by rw [hM]; simp
       have hz4 : W3.heap[W2.heap.size]? = some (boxT x none 0) := by rw [hM]; exact heap_alloc_new _ _
       rw [← hM];clear hM;have hG3 := hG2.alloc hgD hbc;refine ⟨⟨fun _ => ⟨World.cell?_of_block (hG3.same gb hgD m1.1 m1.2), World.cell?_of_block (hG3.same gb hgD m1.1 m1.2)⟩, fun p hp _ h1 h2 => World.cell?_of_block (hG3.same _ hp h1 h2)⟩, ?_⟩;clear hbc;obtain ⟨g8, c8, W4, hap2, hG4, hk4, hsz4⟩ := hG3.push2 hgD (by omega) x HXK.out HXN.out (W2.heap.size) hz4 hvl2;refine qab rfl rfl (fun K hK => ?_);refine qag (by rfl) (.tmp 124) (.tmp 126) (by rfl) (by rfl) (by rfl) hap2 ?_;refine hK _ _ ⟨⟨fun _ => ⟨World.cell?_of_block (hG4.same gb hgD m1.1 m1.2), World.cell?_of_block (hG4.same gb hgD m1.1 m1.2)⟩, fun p hp _ h1 h2 => World.cell?_of_block (hG4.same _ hp h1 h2)⟩, ?_⟩;clear hK K hap2;simp only [Act.put, List.setIfInBounds_toArray];have hgc := (hG4.same gb hgD m1.1 m1.2).trans HOD.out.gen.cell
       obtain ⟨c0, c1, c2, c3, cf⟩ := qad (show W4.heap[gb]? = some (.cells #[.slice nn.A nn.L.length nn.c, .int .i64 ((F + 1 : Nat) : Int), .slice PA its.length Pc, .slice VA vts.length Vc] 77 (0, 0)) from hgc);have hfin := HOD.out.grown hBm hmb hgl (fun k e => (hnp k e).1) (fun k e => (hnv k e).1) hG4 (g' := addG N t u g) (by show qa9 N g.next + 1 = F + 1; rw [HFE.out]) (by rw [List.map_append]; show _ ++ [(t, u)] = _; rw [HOD.out.gen.pairs]; rfl) (by rw [List.map_append]; show _ ++ [x] = _; rw [HOD.out.gen.vars, ← HXV.out]; rfl) (fun y hy => by
        rcases List.mem_append.1 hy with hy | hy
        ·exact HOD.out.gen.leaf y hy
        ·rw [List.mem_singleton] at hy; subst hy; exact HXK.out)
       rw [List.length_append, List.length_append] at hfin;have hxw := (hG4.same xb hxD m4.1 m4.2).trans HX5.out;refine qab rfl rfl (fun K hK => ?_);go_wp2_with fail
       refine ⟨⟨fun _ => ⟨World.cell?_of_block (hG4.same gb hgD m1.1 m1.2), World.cell?_of_block (hG4.same gb hgD m1.1 m1.2)⟩, fun p hp hne h1 h2 => World.cell?_of_block (hG4.same _ hp h1 h2)⟩, ?_⟩;refine qab rfl rfl (fun K hK => ?_);go_wp2_with fail
       refine ⟨⟨fun _ => ⟨World.cell?_of_block (hG4.same gb hgD m1.1 m1.2), World.cell?_of_block (hG4.same gb hgD m1.1 m1.2)⟩, fun p hp hne h1 h2 => World.cell?_of_block (hG4.same _ hp h1 h2)⟩, ?_⟩;refine qab rfl rfl (fun K hK => ?_);go_wp2_with fail
       refine ⟨⟨fun h => absurd h (by decide), fun p hp hne h1 h2 => (World.cell?_of_block (Below.heap_setCell _ _ _ _ hne)).trans (World.cell?_of_block (hG4.same _ hp h1 h2))⟩, ?_⟩;refine qab rfl rfl (fun K hK => ?_);go_wp2_with fail
       refine ⟨⟨fun h => absurd h (by decide), fun p hp hne h1 h2 => (World.cell?_of_block (Below.heap_setCell _ _ _ _ hne)).trans (World.cell?_of_block (hG4.same _ hp h1 h2))⟩, ?_⟩;refine qab rfl rfl (fun K hK => ?_);go_wp2_with fail
       refine ⟨⟨fun h => absurd h (by decide), fun p hp hne h1 h2 => (World.cell?_of_block (Below.heap_setCell _ _ _ _ hne)).trans (World.cell?_of_block (hG4.same _ hp h1 h2))⟩, ?_⟩;refine qab rfl rfl (fun K hK => ?_);go_wp2_with fail
       refine ⟨⟨fun h => absurd h (by decide), fun p hp hne h1 h2 => (World.cell?_of_block (Below.heap_setCell _ _ _ _ hne)).trans ((World.cell?_of_block (Below.heap_setCell _ _ _ _ hne)).trans (World.cell?_of_block (hG4.same _ hp h1 h2)))⟩, qap ?_⟩;clear c0 c1 c2 c3 cf;obtain ⟨WF, hWF⟩ : ∃ WF, WF = (W4.setCell ⟨gb, 2, none⟩ (.slice (some ⟨g9, 0, none⟩) (its.length + 1) c9)).setCell ⟨gb, 3, none⟩ (.slice (some ⟨g8, 0, none⟩) (vts.length + 1) c8) := ⟨_, rfl⟩;have hfin : ROAt gb mb nn B N (addG N t u g) PA VA w (boxT t T ct) (boxT u U cu) (some ⟨g9, 0, none⟩) c9 (some ⟨g8, 0, none⟩) c8 (its ++ [((t, T, ct), (u, U, cu))]) (vts ++ [(x, none, 0)]) WF := by rw [hWF]; exact hfin
       have hxF : WF.heap[xb]? = some (boxT x none 0) := by
        rw [hWF, Below.heap_setCell _ _ _ _ (by show xb ≠ gb; omega), Below.heap_setCell _ _ _ _ (by show xb ≠ gb; omega)];exact hxw
       rw [← hWF];clear hWF;obtain ⟨d0, d1, d2, d3, -⟩ := qam x (hxF);obtain ⟨z0, z1, z2, z3, zf⟩ := qad hfin.b3;go_wp2_with fail
       refine bodyPost_ret (v := .agg #[.int .i64 x.kind, .string x.name, .int .i64 x.sort, .slice none x.kids.length 0]) ?_ rfl ?_
       ·simp [results, Tryz.results53, go_sem, z0, z1, z2, z3]
       have hres : res = (x, addG N t u g) := by rw [HR.out, HXV.out]
       have hrp : RepP WF (fun b => b < B ∨ (w.heap.size + 3 ≤ b ∧ b < WF.heap.size ∧ ownA (some ⟨g9, 0, none⟩) ≠ some b ∧ ownA (some ⟨g8, 0, none⟩) ≠ some b)) x none 0 := by
        clear hfin hxF hxw hres HXV HX5 HR;obtain ⟨x1, x2, x3, x4⟩ := x;have hx4 : x4 = [] := HXK.out;subst hx4;rw [qa7];exact ⟨HXN.out, Nat.le_refl _, Nat.zero_le _, .inl rfl⟩
       have hat := hfin.give hB hgl hmb (fun k e => (hnp k e).1) (fun k e => (hnv k e).1) hrp;refine ⟨none, 0, some ⟨g9, 0, none⟩, c9, some ⟨g8, 0, none⟩, c8, its ++ [((t, T, ct), (u, U, cu))], vts ++ [(x, none, 0)], by rw [hres]; rfl, ?_⟩;rw [hres];exact hat
      ·skip
       refine qab rfl rfl (fun K hK => ?_);go_wp2_with fail
       obtain ⟨W2, hM⟩ : ∃ M, M = W1.alloc (.cells #[.int .i64 x.kind, .string x.name, .int .i64 x.sort, .slice none x.kids.length 0] 24) := ⟨_, rfl⟩;have hbc : Below W1.heap.size W1 W2 := by rw [hM]; exact qaf (Nat.le_refl _) _
       have hsz2 : W1.heap.size < W2.heap.size := by rw [hM]; simp
       have hz4 : W2.heap[W1.heap.size]? = some (boxT x none 0) := by rw [hM]; exact heap_alloc_new _ _
       rw [← hM];clear hM;have hG2 := hG1.alloc hgD hbc;refine ⟨⟨fun _ => ⟨World.cell?_of_block (hG2.same gb hgD m1.1 m1.2), World.cell?_of_block (hG2.same gb hgD m1.1 m1.2)⟩, fun p hp _ h1 h2 => World.cell?_of_block (hG2.same _ hp h1 h2)⟩, ?_⟩;have hz8 := (hbc.block _ (Array.getElem?_eq_some_iff.1 hz8).1).trans hz8;clear hbc;obtain ⟨g9, c9, W3, hap1, hG3, hk3, hsz3⟩ := hG2.push1 hgD (by omega) ((t, T, ct), (u, U, cu)) (D.heap.size) hz8 (RepP.mono (fun _ h => h) (fun p (hp : p.block < B) => (hG2.bel.cell (by omega)).trans (HOD.out.bel.cell (by omega))) _ _ _ HRT.out) (RepP.mono (fun _ h => h) (fun p (hp : p.block < B) => (hG2.bel.cell (by omega)).trans (HOD.out.bel.cell (by omega))) _ _ _ HRU.out) (by omega);refine qab rfl rfl (fun K hK => ?_);refine qag (by rfl) (.tmp 115) (.tmp 119) (by rfl) (by rfl) (by rfl) hap1 ?_
       refine hK _ _ ⟨⟨fun _ => ⟨World.cell?_of_block (hG3.same gb hgD m1.1 m1.2), World.cell?_of_block (hG3.same gb hgD m1.1 m1.2)⟩, fun p hp _ h1 h2 => World.cell?_of_block (hG3.same _ hp h1 h2)⟩, ?_⟩;clear hK K hap1;simp only [Act.put, List.setIfInBounds_toArray];have hz4 := (hk3 _ (Array.getElem?_eq_some_iff.1 hz4).1 (fun e => by have := hnp _ e; omega)).trans hz4;obtain ⟨g8, c8, W4, hap2, hG4, hk4, hsz4⟩ := hG3.push2 hgD (by omega) x HXK.out HXN.out (W1.heap.size) hz4 hvl2;refine qab rfl rfl (fun K hK => ?_);refine qag (by rfl) (.tmp 124) (.tmp 126) (by rfl) (by rfl) (by rfl) hap2 ?_;refine hK _ _ ⟨⟨fun _ => ⟨World.cell?_of_block (hG4.same gb hgD m1.1 m1.2), World.cell?_of_block (hG4.same gb hgD m1.1 m1.2)⟩, fun p hp _ h1 h2 => World.cell?_of_block (hG4.same _ hp h1 h2)⟩, ?_⟩;clear hK K hap2;simp only [Act.put, List.setIfInBounds_toArray]
       have hgc := (hG4.same gb hgD m1.1 m1.2).trans HOD.out.gen.cell;obtain ⟨c0, c1, c2, c3, cf⟩ := qad (show W4.heap[gb]? = some (.cells #[.slice nn.A nn.L.length nn.c, .int .i64 ((F + 1 : Nat) : Int), .slice PA its.length Pc, .slice VA vts.length Vc] 77 (0, 0)) from hgc);have hfin := HOD.out.grown hBm hmb hgl (fun k e => (hnp k e).1) (fun k e => (hnv k e).1) hG4 (g' := addG N t u g) (by show qa9 N g.next + 1 = F + 1; rw [HFE.out]) (by rw [List.map_append]; show _ ++ [(t, u)] = _; rw [HOD.out.gen.pairs]; rfl) (by rw [List.map_append]; show _ ++ [x] = _; rw [HOD.out.gen.vars, ← HXV.out]; rfl) (fun y hy => by
        rcases List.mem_append.1 hy with hy | hy
        ·exact HOD.out.gen.leaf y hy
        ·rw [List.mem_singleton] at hy; subst hy; exact HXK.out)
       rw [List.length_append, List.length_append] at hfin;have hxw := (hG4.same xb hxD m4.1 m4.2).trans HX5.out;refine qab rfl rfl (fun K hK => ?_);go_wp2_with fail
       refine ⟨⟨fun _ => ⟨World.cell?_of_block (hG4.same gb hgD m1.1 m1.2), World.cell?_of_block (hG4.same gb hgD m1.1 m1.2)⟩, fun p hp hne h1 h2 => World.cell?_of_block (hG4.same _ hp h1 h2)⟩, ?_⟩;refine qab rfl rfl (fun K hK => ?_);go_wp2_with fail
       refine ⟨⟨fun _ => ⟨World.cell?_of_block (hG4.same gb hgD m1.1 m1.2), World.cell?_of_block (hG4.same gb hgD m1.1 m1.2)⟩, fun p hp hne h1 h2 => World.cell?_of_block (hG4.same _ hp h1 h2)⟩, ?_⟩;refine qab rfl rfl (fun K hK => ?_);go_wp2_with fail
       refine ⟨⟨fun h => absurd h (by decide), fun p hp hne h1 h2 => (World.cell?_of_block (Below.heap_setCell _ _ _ _ hne)).trans (World.cell?_of_block (hG4.same _ hp h1 h2))⟩, ?_⟩;refine qab rfl rfl (fun K hK => ?_);go_wp2_with fail
       refine ⟨⟨fun h => absurd h (by decide), fun p hp hne h1 h2 => (World.cell?_of_block (Below.heap_setCell _ _ _ _ hne)).trans (World.cell?_of_block (hG4.same _ hp h1 h2))⟩, ?_⟩;refine qab rfl rfl (fun K hK => ?_);go_wp2_with fail
       refine ⟨⟨fun h => absurd h (by decide), fun p hp hne h1 h2 => (World.cell?_of_block (Below.heap_setCell _ _ _ _ hne)).trans (World.cell?_of_block (hG4.same _ hp h1 h2))⟩, ?_⟩;refine qab rfl rfl (fun K hK => ?_);go_wp2_with fail
       refine ⟨⟨fun h => absurd h (by decide), fun p hp hne h1 h2 => (World.cell?_of_block (Below.heap_setCell _ _ _ _ hne)).trans ((World.cell?_of_block (Below.heap_setCell _ _ _ _ hne)).trans (World.cell?_of_block (hG4.same _ hp h1 h2)))⟩, qap ?_⟩;clear c0 c1 c2 c3 cf;obtain ⟨WF, hWF⟩ : ∃ WF, WF = (W4.setCell ⟨gb, 2, none⟩ (.slice (some ⟨g9, 0, none⟩) (its.length + 1) c9)).setCell ⟨gb, 3, none⟩ (.slice (some ⟨g8, 0, none⟩) (vts.length + 1) c8) := ⟨_, rfl⟩;have hfin : ROAt gb mb nn B N (addG N t u g) PA VA w (boxT t T ct) (boxT u U cu) (some ⟨g9, 0, none⟩) c9 (some ⟨g8, 0, none⟩) c8 (its ++ [((t, T, ct), (u, U, cu))]) (vts ++ [(x, none, 0)]) WF := by rw [hWF]; exact hfin
       have hxF : WF.heap[xb]? = some (boxT x none 0) := by
        rw [hWF, Below.heap_setCell _ _ _ _ (by show xb ≠ gb; omega), Below.heap_setCell _ _ _ _ (by show xb ≠ gb; omega)];exact hxw
       rw [← hWF];clear hWF;obtain ⟨d0, d1, d2, d3, -⟩ := qam x (hxF);obtain ⟨z0, z1, z2, z3, zf⟩ := qad hfin.b3;go_wp2_with fail
       refine bodyPost_ret (v := .agg #[.int .i64 x.kind, .string x.name, .int .i64 x.sort, .slice none x.kids.length 0]) ?_ rfl ?_
       ·simp [results, Tryz.results53, go_sem, z0, z1, z2, z3]
       have hres : res = (x, addG N t u g) := by rw [HR.out, HXV.out]
       have hrp : RepP WF (fun b => b < B ∨ (w.heap.size + 3 ≤ b ∧ b < WF.heap.size ∧ ownA (some ⟨g9, 0, none⟩) ≠ some b ∧ ownA (some ⟨g8, 0, none⟩) ≠ some b)) x none 0 := by
        clear hfin hxF hxw hres HXV HX5 HR;obtain ⟨x1, x2, x3, x4⟩ := x;have hx4 : x4 = [] := HXK.out;subst hx4;rw [qa7];exact ⟨HXN.out, Nat.le_refl _, Nat.zero_le _, .inl rfl⟩
       have hat := hfin.give hB hgl hmb (fun k e => (hnp k e).1) (fun k e => (hnv k e).1) hrp;refine ⟨none, 0, some ⟨g9, 0, none⟩, c9, some ⟨g8, 0, none⟩, c8, its ++ [((t, T, ct), (u, U, cu))], vts ++ [(x, none, 0)], by rw [hres]; rfl, ?_⟩;rw [hres];exact hat
     ·skip
      refine qab rfl rfl (fun K hK => ?_);go_wp2_with fail
      obtain ⟨W1, hM⟩ : ∃ M, M = D.alloc (.cells #[.int .i64 x.kind, .string x.name, .int .i64 x.sort, .slice none x.kids.length 0] 24) := ⟨_, rfl⟩;have hbc : Below D.heap.size D W1 := by rw [hM]; exact qaf (Nat.le_refl _) _
      have hsz1 : D.heap.size < W1.heap.size := by rw [hM]; simp
      have hz4 : W1.heap[D.heap.size]? = some (boxT x none 0) := by rw [hM]; exact heap_alloc_new _ _
      rw [← hM];clear hM;have hG1 := hG0.alloc hgD hbc;refine ⟨⟨fun _ => ⟨World.cell?_of_block (hG1.same gb hgD m1.1 m1.2), World.cell?_of_block (hG1.same gb hgD m1.1 m1.2)⟩, fun p hp _ h1 h2 => World.cell?_of_block (hG1.same _ hp h1 h2)⟩, ?_⟩;clear hbc;refine qab rfl rfl (fun K hK => ?_);go_wp2_with fail
      obtain ⟨W2, hM⟩ : ∃ M, M = W1.alloc (.cells #[.int .i64 t.kind, .string t.name, .int .i64 t.sort, .slice T t.kids.length ct, .int .i64 u.kind, .string u.name, .int .i64 u.sort, .slice U u.kids.length cu] 57) := ⟨_, rfl⟩;have hbc : Below W1.heap.size W1 W2 := by rw [hM]; exact qaf (Nat.le_refl _) _
      have hsz2 : W1.heap.size < W2.heap.size := by rw [hM]; simp
      have hz8 : W2.heap[W1.heap.size]? = some (.cells (bCells [((t, T, ct), (u, U, cu))]).toArray 57 (0, 0)) := by rw [hM]; exact heap_alloc_new _ _
      rw [← hM];clear hM;have hG2 := hG1.alloc hgD hbc;refine ⟨⟨fun _ => ⟨World.cell?_of_block (hG2.same gb hgD m1.1 m1.2), World.cell?_of_block (hG2.same gb hgD m1.1 m1.2)⟩, fun p hp _ h1 h2 => World.cell?_of_block (hG2.same _ hp h1 h2)⟩, ?_⟩;have hz4 := (hbc.block _ (Array.getElem?_eq_some_iff.1 hz4).1).trans hz4;clear hbc;obtain ⟨g9, c9, W3, hap1, hG3, hk3, hsz3⟩ := hG2.push1 hgD (by omega) ((t, T, ct), (u, U, cu)) (W1.heap.size) hz8 (RepP.mono (fun _ h => h) (fun p (hp : p.block < B) => (hG2.bel.cell (by omega)).trans (HOD.out.bel.cell (by omega))) _ _ _ HRT.out) (RepP.mono (fun _ h => h) (fun p (hp : p.block < B) => (hG2.bel.cell (by omega)).trans (HOD.out.bel.cell (by omega))) _ _ _ HRU.out) (by omega);refine qab rfl rfl (fun K hK => ?_);refine qag (by rfl) (.tmp 115) (.tmp 119) (by rfl) (by rfl) (by rfl) hap1 ?_
      refine hK _ _ ⟨⟨fun _ => ⟨World.cell?_of_block (hG3.same gb hgD m1.1 m1.2), World.cell?_of_block (hG3.same gb hgD m1.1 m1.2)⟩, fun p hp _ h1 h2 => World.cell?_of_block (hG3.same _ hp h1 h2)⟩, ?_⟩;clear hK K hap1;simp only [Act.put, List.setIfInBounds_toArray];have hz4 := (hk3 _ (Array.getElem?_eq_some_iff.1 hz4).1 (fun e => by have := hnp _ e; omega)).trans hz4;obtain ⟨g8, c8, W4, hap2, hG4, hk4, hsz4⟩ := hG3.push2 hgD (by omega) x HXK.out HXN.out (D.heap.size) hz4 hvl2;refine qab rfl rfl (fun K hK => ?_);refine qag (by rfl) (.tmp 124) (.tmp 126) (by rfl) (by rfl) (by rfl) hap2 ?_;refine hK _ _ ⟨⟨fun _ => ⟨World.cell?_of_block (hG4.same gb hgD m1.1 m1.2), World.cell?_of_block (hG4.same gb hgD m1.1 m1.2)⟩, fun p hp _ h1 h2 => World.cell?_of_block (hG4.same _ hp h1 h2)⟩, ?_⟩;clear hK K hap2;simp only [Act.put, List.setIfInBounds_toArray]
      have hgc := (hG4.same gb hgD m1.1 m1.2).trans HOD.out.gen.cell;obtain ⟨c0, c1, c2, c3, cf⟩ := qad (show W4.heap[gb]? = some (.cells #[.slice nn.A nn.L.length nn.c, .int .i64 ((F + 1 : Nat) : Int), .slice PA its.length Pc, .slice VA vts.length Vc] 77 (0, 0)) from hgc);have hfin := HOD.out.grown hBm hmb hgl (fun k e => (hnp k e).1) (fun k e => (hnv k e).1) hG4 (g' := addG N t u g) (by show qa9 N g.next + 1 = F + 1; rw [HFE.out]) (by rw [List.map_append]; show _ ++ [(t, u)] = _; rw [HOD.out.gen.pairs]; rfl) (by rw [List.map_append]; show _ ++ [x] = _; rw [HOD.out.gen.vars, ← HXV.out]; rfl) (fun y hy => by
       rcases List.mem_append.1 hy with hy | hy
       ·exact HOD.out.gen.leaf y hy
       ·rw [List.mem_singleton] at hy; subst hy; exact HXK.out)
      rw [List.length_append, List.length_append] at hfin;have hxw := (hG4.same xb hxD m4.1 m4.2).trans HX5.out;refine qab rfl rfl (fun K hK => ?_);go_wp2_with fail
      refine ⟨⟨fun _ => ⟨World.cell?_of_block (hG4.same gb hgD m1.1 m1.2), World.cell?_of_block (hG4.same gb hgD m1.1 m1.2)⟩, fun p hp hne h1 h2 => World.cell?_of_block (hG4.same _ hp h1 h2)⟩, ?_⟩;refine qab rfl rfl (fun K hK => ?_);go_wp2_with fail
      refine ⟨⟨fun _ => ⟨World.cell?_of_block (hG4.same gb hgD m1.1 m1.2), World.cell?_of_block (hG4.same gb hgD m1.1 m1.2)⟩, fun p hp hne h1 h2 => World.cell?_of_block (hG4.same _ hp h1 h2)⟩, ?_⟩;refine qab rfl rfl (fun K hK => ?_);go_wp2_with fail
      refine ⟨⟨fun h => absurd h (by decide), fun p hp hne h1 h2 => (World.cell?_of_block (Below.heap_setCell _ _ _ _ hne)).trans (World.cell?_of_block (hG4.same _ hp h1 h2))⟩, ?_⟩;refine qab rfl rfl (fun K hK => ?_);go_wp2_with fail
      refine ⟨⟨fun h => absurd h (by decide), fun p hp hne h1 h2 => (World.cell?_of_block (Below.heap_setCell _ _ _ _ hne)).trans (World.cell?_of_block (hG4.same _ hp h1 h2))⟩, ?_⟩;refine qab rfl rfl (fun K hK => ?_);go_wp2_with fail
      refine ⟨⟨fun h => absurd h (by decide), fun p hp hne h1 h2 => (World.cell?_of_block (Below.heap_setCell _ _ _ _ hne)).trans (World.cell?_of_block (hG4.same _ hp h1 h2))⟩, ?_⟩;refine qab rfl rfl (fun K hK => ?_);go_wp2_with fail
      refine ⟨⟨fun h => absurd h (by decide), fun p hp hne h1 h2 => (World.cell?_of_block (Below.heap_setCell _ _ _ _ hne)).trans ((World.cell?_of_block (Below.heap_setCell _ _ _ _ hne)).trans (World.cell?_of_block (hG4.same _ hp h1 h2)))⟩, qap ?_⟩;clear c0 c1 c2 c3 cf;obtain ⟨WF, hWF⟩ : ∃ WF, WF = (W4.setCell ⟨gb, 2, none⟩ (.slice (some ⟨g9, 0, none⟩) (its.length + 1) c9)).setCell ⟨gb, 3, none⟩ (.slice (some ⟨g8, 0, none⟩) (vts.length + 1) c8) := ⟨_, rfl⟩;have hfin : ROAt gb mb nn B N (addG N t u g) PA VA w (boxT t T ct) (boxT u U cu) (some ⟨g9, 0, none⟩) c9 (some ⟨g8, 0, none⟩) c8 (its ++ [((t, T, ct), (u, U, cu))]) (vts ++ [(x, none, 0)]) WF := by rw [hWF]; exact hfin
      have hxF : WF.heap[xb]? = some (boxT x none 0) := by
       rw [hWF, Below.heap_setCell _ _ _ _ (by show xb ≠ gb; omega), Below.heap_setCell _ _ _ _ (by show xb ≠ gb; omega)];exact hxw
      rw [← hWF];clear hWF;obtain ⟨d0, d1, d2, d3, -⟩ := qam x (hxF);obtain ⟨z0, z1, z2, z3, zf⟩ := qad hfin.b3;go_wp2_with fail
      refine bodyPost_ret (v := .agg #[.int .i64 x.kind, .string x.name, .int .i64 x.sort, .slice none x.kids.length 0]) ?_ rfl ?_
      ·simp [results, Tryz.results53, go_sem, z0, z1, z2, z3]
      have hres : res = (x, addG N t u g) := by rw [HR.out, HXV.out]
      have hrp : RepP WF (fun b => b < B ∨ (w.heap.size + 3 ≤ b ∧ b < WF.heap.size ∧ ownA (some ⟨g9, 0, none⟩) ≠ some b ∧ ownA (some ⟨g8, 0, none⟩) ≠ some b)) x none 0 := by
       clear hfin hxF hxw hres HXV HX5 HR;obtain ⟨x1, x2, x3, x4⟩ := x;have hx4 : x4 = [] := HXK.out;subst hx4;rw [qa7];exact ⟨HXN.out, Nat.le_refl _, Nat.zero_le _, .inl rfl⟩
      have hat := hfin.give hB hgl hmb (fun k e => (hnp k e).1) (fun k e => (hnv k e).1) hrp;refine ⟨none, 0, some ⟨g9, 0, none⟩, c9, some ⟨g8, 0, none⟩, c8, its ++ [((t, T, ct), (u, U, cu))], vts ++ [(x, none, 0)], by rw [hres]; rfl, ?_⟩;rw [hres];exact hat
    ·skip
     obtain ⟨a0, a1, a2, a3, af⟩ := qam t (HO4.out.b1);obtain ⟨b0, b1, b2, b3, bf⟩ := qam u (HO4.out.b2);obtain ⟨z0, z1, z2, z3, zf⟩ := qad HO4.out.b3;have hxv : newG N t u g = .mk 1 (qax F) 0 [] := by unfold newG; rw [if_neg s0, HFE.out]
     have S0 := Lib.hid s0; clear s0;obtain ⟨x, hx⟩ : ∃ x, x = Tm.mk 1 (qax F) 0 [] := ⟨_, rfl⟩;rw [← hx] at hxv;have hxk : x.kids = [] := by rw [hx]; rfl
     have hxn : x.name.size ≤ maxLen := by rw [hx]; show (qax F).size ≤ maxLen; unfold maxLen; omega
     have HXE := Lib.hid hx;have HXK := Lib.hid hxk; clear hxk;have HXN := Lib.hid hxn; clear hxn;have HXV := Lib.hid hxv; clear hxv;clear hx;obtain ⟨W5, hW5⟩ : ∃ W5, W5 = w4.alloc (boxT x none 0) := ⟨_, rfl⟩;have hb5 : Below w4.heap.size w4 W5 := by rw [hW5]; exact qaf (Nat.le_refl _) _
     have hx5 : W5.heap[w4.heap.size]? = some (boxT x none 0) := by rw [hW5]; exact heap_alloc_new _ _
     have hs5 : w4.heap.size < W5.heap.size := by rw [hW5]; simp
     have HOD : Hid (ROAt gb mb nn B N { g with next := F + 1 } PA VA w (boxT t T ct) (boxT u U cu) PA Pc VA Vc its vts W5.drew) := (HO4.out.go hb5).go (Below.refl _ _).drew;have HX5 : Hid (W5.drew.heap[w4.heap.size]? = some (boxT x none 0)) := hx5;have hxbw : w.heap.size + 3 ≤ w4.heap.size := HO4.out.lt;have hW5' : W5 = w4.alloc (.cells #[.int .i64 1, .string (qax F), .int .i64 (0), .slice none 0 0] 24) := by rw [hW5, HXE.out]; rfl
     have HW5 := Lib.hid hW5'; clear hW5 hW5' hx5 hb5 HO4;obtain ⟨xb, hxb⟩ : ∃ xb, xb = w4.heap.size := ⟨_, rfl⟩;go_wp2_with fail
     clear a0 a1 a2 a3 af b0 b1 b2 b3 bf z0 z1 z2 z3 zf;rw [← HW5.out, ← hxb];rw [← hxb] at HX5 hs5 hxbw;have HSD : Hid (W5.drew.heap.size = W5.heap.size) := rfl;clear hxb;have hnp : ∀ k, ownA PA = some k → k < w.heap.size ∧ gb < k := fun k e => by have := HGEN.out.own1 k e; omega
     have hnv : ∀ k, ownA VA = some k → k < w.heap.size ∧ gb < k := fun k e => by have := HGEN.out.own2 k e; omega
     have hxb4 : w.heap.size + 3 ≤ xb := hxbw;have m1 : ownA PA ≠ some gb ∧ ownA VA ≠ some gb := ⟨fun e => by have := hnp _ e; omega, fun e => by have := hnv _ e; omega⟩;have m2 : ownA PA ≠ some w.heap.size ∧ ownA VA ≠ some w.heap.size := ⟨fun e => by have := hnp _ e; omega, fun e => by have := hnv _ e; omega⟩;have m3 : ownA PA ≠ some (w.heap.size + 1) ∧ ownA VA ≠ some (w.heap.size + 1) := ⟨fun e => by have := hnp _ e; omega, fun e => by have := hnv _ e; omega⟩;have m4 : ownA PA ≠ some xb ∧ ownA VA ≠ some xb := ⟨fun e => by have := hnp _ e; omega, fun e => by have := hnv _ e; omega⟩;have hG0 : RGrown2 gb B PA VA W5.drew PA Pc VA Vc its vts W5.drew := ⟨fun _ _ _ _ => rfl, Nat.le_refl _, Below.refl _ _, HOD.out.gen.row, HOD.out.gen.vrow, fun k e => .inl e, fun k e => .inl e, HOD.out.gen.apart⟩;obtain ⟨a0, a1, a2, a3, -⟩ := qam t (HOD.out.b1)
     obtain ⟨b0, b1, b2, b3, -⟩ := qam u (HOD.out.b2);obtain ⟨c0, c1, c2, c3, -⟩ := qad (show W5.drew.heap[gb]? = some (.cells #[.slice nn.A nn.L.length nn.c, .int .i64 ((F + 1 : Nat) : Int), .slice PA its.length Pc, .slice VA vts.length Vc] 77 (0, 0)) from HOD.out.gen.cell);obtain ⟨d0, d1, d2, d3, -⟩ := qam x (HX5.out);have hgD := HOD.out.gen.lt;have hlD := HOD.out.lt;have hxD : xb < W5.drew.heap.size := (Array.getElem?_eq_some_iff.1 HX5.out).1;have HG0 := Lib.hid hG0; clear hG0
     refine qal (fun Y => Y.cell? ⟨gb, 2, none⟩ = W5.drew.cell? ⟨gb, 2, none⟩ ∧ Y.cell? ⟨gb, 3, none⟩ = W5.drew.cell? ⟨gb, 3, none⟩) (fun Y => ∀ p : Addr, p.block < W5.drew.heap.size → p.block ≠ gb → ownA PA ≠ some p.block → ownA VA ≠ some p.block → Y.cell? p = W5.drew.cell? p) [1, 11, 12, 13, 15, 20, 21, 22, 23] (.held 1 (.held 11 (.held 12 (.held 13 (.held 15 (.held 0 (.held 2 (.held 3 (.held 4 (.held 5 (.held 6 (.held 7 (.held 8 (.held 14 (.two 9 16 (.two 10 16 (.op 16 (.op 17 (.op 18 (.op 19 (.op 20 (.op 21 (.op 22 (.op 23 .nil)))))))) (.op 10 (.op 17 (.op 18 (.op 19 (.op 20 (.op 21 (.op 22 (.op 23 .nil))))))))) (.op 9 (.op 10 (.op 17 (.op 18 (.op 19 (.op 20 (.op 21 (.op 22 (.op 23 .nil)))))))))))))))))))))))) mixed (by kernel_rfl) ?_;generalize W5.drew = D at *
     refine qaz (v := .pointer (some ⟨gb, 0, none⟩)) rfl rfl rfl (fun _ _ _ h => h) (fun _ _ _ _ _ => rfl) (fun Y hY => by
      (try simp only [Act.put]); go_simp) ?_
     refine qaz (v := .pointer (some ⟨gb, 0, none⟩)) rfl rfl rfl (fun _ _ _ h => h) (fun _ _ _ _ _ => rfl) (fun Y hY => by
      (try simp only [Act.put]); go_simp) ?_
     refine qaz (v := .pointer (some ⟨gb, 0, none⟩)) rfl rfl rfl (fun _ _ _ h => h) (fun _ _ _ _ _ => rfl) (fun Y hY => by
      (try simp only [Act.put]); go_simp) ?_
     refine qaz (v := .pointer (some ⟨gb, 3, none⟩)) rfl rfl rfl (fun _ _ _ h => h) (fun _ _ _ _ _ => rfl) (fun Y hY => by
      (try simp only [Act.put]); go_simp) ?_
     refine qaz (v := .agg #[.int .i64 x.kind, .string x.name, .int .i64 x.sort, .slice none x.kids.length 0]) rfl rfl rfl (fun _ _ _ h => h) (fun _ _ _ _ _ => rfl) (fun Y hY => by
      have z0 := (hY ⟨xb, 0, none⟩ (by show xb < _; omega) (by show xb ≠ gb; omega) (m4.1) (m4.2)).trans d0;have z1 := (hY ⟨xb, 1, none⟩ (by show xb < _; omega) (by show xb ≠ gb; omega) (m4.1) (m4.2)).trans d1;have z2 := (hY ⟨xb, 2, none⟩ (by show xb < _; omega) (by show xb ≠ gb; omega) (m4.1) (m4.2)).trans d2;have z3 := (hY ⟨xb, 3, none⟩ (by show xb < _; omega) (by show xb ≠ gb; omega) (m4.1) (m4.2)).trans d3
      (try simp only [Act.put]); go_simp) ?_
     refine qaa (v := .pointer (some ⟨gb, 0, none⟩)) rfl rfl rfl (fun _ _ _ h => h) ⟨rfl, rfl⟩ (fun _ _ _ _ _ => rfl) (fun Y hY2 hY => by
      (try simp only [Act.put]); go_simp) ?_
     refine qaa (v := .pointer (some ⟨gb, 0, none⟩)) rfl rfl rfl (fun _ _ _ h => h) ⟨rfl, rfl⟩ (fun _ _ _ _ _ => rfl) (fun Y hY2 hY => by
      (try simp only [Act.put]); go_simp) ?_
     refine qaa (v := .pointer (some ⟨gb, 0, none⟩)) rfl rfl rfl (fun _ _ _ h => h) ⟨rfl, rfl⟩ (fun _ _ _ _ _ => rfl) (fun Y hY2 hY => by
      (try simp only [Act.put]); go_simp) ?_
     refine qaa (v := .pointer (some ⟨gb, 2, none⟩)) rfl rfl rfl (fun _ _ _ h => h) ⟨rfl, rfl⟩ (fun _ _ _ _ _ => rfl) (fun Y hY2 hY => by
      (try simp only [Act.put]); go_simp) ?_
     refine qaa (v := .slice PA its.length Pc) rfl rfl rfl (fun _ _ _ h => h) ⟨rfl, rfl⟩ (fun _ _ _ _ _ => rfl) (fun Y hY2 hY => by
      have z0 := hY2.1.trans c2
      (try simp only [Act.put]); go_simp) ?_
     refine qaa (v := .agg #[.int .i64 t.kind, .string t.name, .int .i64 t.sort, .slice T t.kids.length ct]) rfl rfl rfl (fun _ _ _ h => h) ⟨rfl, rfl⟩ (fun _ _ _ _ _ => rfl) (fun Y hY2 hY => by
      have z0 := (hY ⟨w.heap.size, 0, none⟩ (by show w.heap.size < _; omega) (by show w.heap.size ≠ gb; omega) (m2.1) (m2.2)).trans a0;have z1 := (hY ⟨w.heap.size, 1, none⟩ (by show w.heap.size < _; omega) (by show w.heap.size ≠ gb; omega) (m2.1) (m2.2)).trans a1;have z2 := (hY ⟨w.heap.size, 2, none⟩ (by show w.heap.size < _; omega) (by show w.heap.size ≠ gb; omega) (m2.1) (m2.2)).trans a2;have z3 := (hY ⟨w.heap.size, 3, none⟩ (by show w.heap.size < _; omega) (by show w.heap.size ≠ gb; omega) (m2.1) (m2.2)).trans a3
      (try simp only [Act.put]); go_simp) ?_
     refine qaa (v := .agg #[.int .i64 u.kind, .string u.name, .int .i64 u.sort, .slice U u.kids.length cu]) rfl rfl rfl (fun _ _ _ h => h) ⟨rfl, rfl⟩ (fun _ _ _ _ _ => rfl) (fun Y hY2 hY => by
      have z0 := (hY ⟨w.heap.size + 1, 0, none⟩ (by show w.heap.size + 1 < _; omega) (by show w.heap.size + 1 ≠ gb; omega) (m3.1) (m3.2)).trans b0;have z1 := (hY ⟨w.heap.size + 1, 1, none⟩ (by show w.heap.size + 1 < _; omega) (by show w.heap.size + 1 ≠ gb; omega) (m3.1) (m3.2)).trans b1;have z2 := (hY ⟨w.heap.size + 1, 2, none⟩ (by show w.heap.size + 1 < _; omega) (by show w.heap.size + 1 ≠ gb; omega) (m3.1) (m3.2)).trans b2;have z3 := (hY ⟨w.heap.size + 1, 3, none⟩ (by show w.heap.size + 1 < _; omega) (by show w.heap.size + 1 ≠ gb; omega) (m3.1) (m3.2)).trans b3
      (try simp only [Act.put]); go_simp) ?_
     refine qaa (v := .agg #[.int .i64 t.kind, .string t.name, .int .i64 t.sort, .slice T t.kids.length ct, .int .i64 u.kind, .string u.name, .int .i64 u.sort, .slice U u.kids.length cu]) rfl rfl rfl (fun _ _ _ h => h) ⟨rfl, rfl⟩ (fun _ _ _ _ _ => rfl) (fun Y hY2 hY => by
      (try simp only [Act.put]); go_simp) ?_
     refine qaa (v := .slice VA vts.length Vc) rfl rfl rfl (fun _ _ _ h => h) ⟨rfl, rfl⟩ (fun _ _ _ _ _ => rfl) (fun Y hY2 hY => by
      have z0 := hY2.2.trans c3
      (try simp only [Act.put]); go_simp) ?_
     simp only [Act.put, List.setIfInBounds_toArray];clear a0 a1 a2 a3 b0 b1 b2 b3 c0 c1 c2 c3 d0 d1 d2 d3;have hG0 := HG0.out;refine qbg ?_ ?_
     ·skip
      refine qab rfl rfl (fun K hK => ?_);go_wp2_with fail
      obtain ⟨W1, hM⟩ : ∃ M, M = D.alloc (.cells #[.int .i64 t.kind, .string t.name, .int .i64 t.sort, .slice T t.kids.length ct, .int .i64 u.kind, .string u.name, .int .i64 u.sort, .slice U u.kids.length cu] 57) := ⟨_, rfl⟩;have hbc : Below D.heap.size D W1 := by rw [hM]; exact qaf (Nat.le_refl _) _
      have hsz1 : D.heap.size < W1.heap.size := by rw [hM]; simp
      have hz8 : W1.heap[D.heap.size]? = some (.cells (bCells [((t, T, ct), (u, U, cu))]).toArray 57 (0, 0)) := by rw [hM]; exact heap_alloc_new _ _
      rw [← hM];clear hM;have hG1 := hG0.alloc hgD hbc;refine ⟨⟨fun _ => ⟨World.cell?_of_block (hG1.same gb hgD m1.1 m1.2), World.cell?_of_block (hG1.same gb hgD m1.1 m1.2)⟩, fun p hp _ h1 h2 => World.cell?_of_block (hG1.same _ hp h1 h2)⟩, ?_⟩;clear hbc;refine qbg ?_ ?_
      ·skip
       obtain ⟨g9, c9, W2, hap1, hG2, hk2, hsz2⟩ := hG1.push1 hgD (by omega) ((t, T, ct), (u, U, cu)) (D.heap.size) hz8 (RepP.mono (fun _ h => h) (fun p (hp : p.block < B) => (hG1.bel.cell (by omega)).trans (HOD.out.bel.cell (by omega))) _ _ _ HRT.out) (RepP.mono (fun _ h => h) (fun p (hp : p.block < B) => (hG1.bel.cell (by omega)).trans (HOD.out.bel.cell (by omega))) _ _ _ HRU.out) (by omega);refine qab rfl rfl (fun K hK => ?_);refine qag (by rfl) (.tmp 115) (.tmp 119) (by rfl) (by rfl) (by rfl) hap1 ?_;refine hK _ _ ⟨⟨fun _ => ⟨World.cell?_of_block (hG2.same gb hgD m1.1 m1.2), World.cell?_of_block (hG2.same gb hgD m1.1 m1.2)⟩, fun p hp _ h1 h2 => World.cell?_of_block (hG2.same _ hp h1 h2)⟩, ?_⟩;clear hK K hap1;simp only [Act.put, List.setIfInBounds_toArray];refine qab rfl rfl (fun K hK => ?_);go_wp2_with fail
       obtain ⟨W3, hM⟩ : ∃ M, M = W2.alloc (.cells #[.int .i64 x.kind, .string x.name, .int .i64 x.sort, .slice none x.kids.length 0] 24) := ⟨_, rfl⟩;have hbc : Below W2.heap.size W2 W3 := by rw [hM]; exact qaf (Nat.le_refl _) _
       have hsz3 : W2.heap.size < W3.heap.size := by rw [hM]; simp
       have hz4 : W3.heap[W2.heap.size]? = some (boxT x none 0) := by rw [hM]; exact heap_alloc_new _ _
       rw [← hM];clear hM;have hG3 := hG2.alloc hgD hbc;refine ⟨⟨fun _ => ⟨World.cell?_of_block (hG3.same gb hgD m1.1 m1.2), World.cell?_of_block (hG3.same gb hgD m1.1 m1.2)⟩, fun p hp _ h1 h2 => World.cell?_of_block (hG3.same _ hp h1 h2)⟩, ?_⟩;clear hbc;obtain ⟨g8, c8, W4, hap2, hG4, hk4, hsz4⟩ := hG3.push2 hgD (by omega) x HXK.out HXN.out (W2.heap.size) hz4 hvl2;refine qab rfl rfl (fun K hK => ?_);refine qag (by rfl) (.tmp 124) (.tmp 126) (by rfl) (by rfl) (by rfl) hap2 ?_;refine hK _ _ ⟨⟨fun _ => ⟨World.cell?_of_block (hG4.same gb hgD m1.1 m1.2), World.cell?_of_block (hG4.same gb hgD m1.1 m1.2)⟩, fun p hp _ h1 h2 => World.cell?_of_block (hG4.same _ hp h1 h2)⟩, ?_⟩;clear hK K hap2;simp only [Act.put, List.setIfInBounds_toArray];have hgc := (hG4.same gb hgD m1.1 m1.2).trans HOD.out.gen.cell
       obtain ⟨c0, c1, c2, c3, cf⟩ := qad (show W4.heap[gb]? = some (.cells #[.slice nn.A nn.L.length nn.c, .int .i64 ((F + 1 : Nat) : Int), .slice PA its.length Pc, .slice VA vts.length Vc] 77 (0, 0)) from hgc);have hfin := HOD.out.grown hBm hmb hgl (fun k e => (hnp k e).1) (fun k e => (hnv k e).1) hG4 (g' := addG N t u g) (by show qa9 N g.next + 1 = F + 1; rw [HFE.out]) (by rw [List.map_append]; show _ ++ [(t, u)] = _; rw [HOD.out.gen.pairs]; rfl) (by rw [List.map_append]; show _ ++ [x] = _; rw [HOD.out.gen.vars, ← HXV.out]; rfl) (fun y hy => by
        rcases List.mem_append.1 hy with hy | hy
        ·exact HOD.out.gen.leaf y hy
        ·rw [List.mem_singleton] at hy; subst hy; exact HXK.out)
       rw [List.length_append, List.length_append] at hfin;have hxw := (hG4.same xb hxD m4.1 m4.2).trans HX5.out;refine qab rfl rfl (fun K hK => ?_);go_wp2_with fail
       refine ⟨⟨fun _ => ⟨World.cell?_of_block (hG4.same gb hgD m1.1 m1.2), World.cell?_of_block (hG4.same gb hgD m1.1 m1.2)⟩, fun p hp hne h1 h2 => World.cell?_of_block (hG4.same _ hp h1 h2)⟩, ?_⟩;refine qab rfl rfl (fun K hK => ?_);go_wp2_with fail
       refine ⟨⟨fun _ => ⟨World.cell?_of_block (hG4.same gb hgD m1.1 m1.2), World.cell?_of_block (hG4.same gb hgD m1.1 m1.2)⟩, fun p hp hne h1 h2 => World.cell?_of_block (hG4.same _ hp h1 h2)⟩, ?_⟩;refine qab rfl rfl (fun K hK => ?_);go_wp2_with fail
       refine ⟨⟨fun h => absurd h (by decide), fun p hp hne h1 h2 => (World.cell?_of_block (Below.heap_setCell _ _ _ _ hne)).trans (World.cell?_of_block (hG4.same _ hp h1 h2))⟩, ?_⟩;refine qab rfl rfl (fun K hK => ?_);go_wp2_with fail
       refine ⟨⟨fun h => absurd h (by decide), fun p hp hne h1 h2 => (World.cell?_of_block (Below.heap_setCell _ _ _ _ hne)).trans (World.cell?_of_block (hG4.same _ hp h1 h2))⟩, ?_⟩;refine qab rfl rfl (fun K hK => ?_);go_wp2_with fail
       refine ⟨⟨fun h => absurd h (by decide), fun p hp hne h1 h2 => (World.cell?_of_block (Below.heap_setCell _ _ _ _ hne)).trans (World.cell?_of_block (hG4.same _ hp h1 h2))⟩, ?_⟩;refine qab rfl rfl (fun K hK => ?_);go_wp2_with fail
       refine ⟨⟨fun h => absurd h (by decide), fun p hp hne h1 h2 => (World.cell?_of_block (Below.heap_setCell _ _ _ _ hne)).trans ((World.cell?_of_block (Below.heap_setCell _ _ _ _ hne)).trans (World.cell?_of_block (hG4.same _ hp h1 h2)))⟩, qap ?_⟩;clear c0 c1 c2 c3 cf;obtain ⟨WF, hWF⟩ : ∃ WF, WF = (W4.setCell ⟨gb, 2, none⟩ (.slice (some ⟨g9, 0, none⟩) (its.length + 1) c9)).setCell ⟨gb, 3, none⟩ (.slice (some ⟨g8, 0, none⟩) (vts.length + 1) c8) := ⟨_, rfl⟩;have hfin : ROAt gb mb nn B N (addG N t u g) PA VA w (boxT t T ct) (boxT u U cu) (some ⟨g9, 0, none⟩) c9 (some ⟨g8, 0, none⟩) c8 (its ++ [((t, T, ct), (u, U, cu))]) (vts ++ [(x, none, 0)]) WF := by rw [hWF]; exact hfin
       have hxF : WF.heap[xb]? = some (boxT x none 0) := by
        rw [hWF, Below.heap_setCell _ _ _ _ (by show xb ≠ gb; omega), Below.heap_setCell _ _ _ _ (by show xb ≠ gb; omega)];exact hxw
       rw [← hWF];clear hWF;obtain ⟨d0, d1, d2, d3, -⟩ := qam x (hxF);obtain ⟨z0, z1, z2, z3, zf⟩ := qad hfin.b3;go_wp2_with fail
       refine bodyPost_ret (v := .agg #[.int .i64 x.kind, .string x.name, .int .i64 x.sort, .slice none x.kids.length 0]) ?_ rfl ?_
       ·simp [results, Tryz.results53, go_sem, z0, z1, z2, z3]
       have hres : res = (x, addG N t u g) := by rw [HR.out, HXV.out]
       have hrp : RepP WF (fun b => b < B ∨ (w.heap.size + 3 ≤ b ∧ b < WF.heap.size ∧ ownA (some ⟨g9, 0, none⟩) ≠ some b ∧ ownA (some ⟨g8, 0, none⟩) ≠ some b)) x none 0 := by
        clear hfin hxF hxw hres HXV HX5 HR;obtain ⟨x1, x2, x3, x4⟩ := x;have hx4 : x4 = [] := HXK.out;subst hx4;rw [qa7];exact ⟨HXN.out, Nat.le_refl _, Nat.zero_le _, .inl rfl⟩
       have hat := hfin.give hB hgl hmb (fun k e => (hnp k e).1) (fun k e => (hnv k e).1) hrp;refine ⟨none, 0, some ⟨g9, 0, none⟩, c9, some ⟨g8, 0, none⟩, c8, its ++ [((t, T, ct), (u, U, cu))], vts ++ [(x, none, 0)], by rw [hres]; rfl, ?_⟩;rw [hres];exact hat
      ·skip
       refine qab rfl rfl (fun K hK => ?_);go_wp2_with fail
       obtain ⟨W2, hM⟩ : ∃ M, M = W1.alloc (.cells #[.int .i64 x.kind, .string x.name, .int .i64 x.sort, .slice none x.kids.length 0] 24) := ⟨_, rfl⟩;have hbc : Below W1.heap.size W1 W2 := by rw [hM]; exact qaf (Nat.le_refl _) _
       have hsz2 : W1.heap.size < W2.heap.size := by rw [hM]; simp
       have hz4 : W2.heap[W1.heap.size]? = some (boxT x none 0) := by rw [hM]; exact heap_alloc_new _ _
       rw [← hM];clear hM;have hG2 := hG1.alloc hgD hbc;refine ⟨⟨fun _ => ⟨World.cell?_of_block (hG2.same gb hgD m1.1 m1.2), World.cell?_of_block (hG2.same gb hgD m1.1 m1.2)⟩, fun p hp _ h1 h2 => World.cell?_of_block (hG2.same _ hp h1 h2)⟩, ?_⟩;have hz8 := (hbc.block _ (Array.getElem?_eq_some_iff.1 hz8).1).trans hz8;clear hbc;obtain ⟨g9, c9, W3, hap1, hG3, hk3, hsz3⟩ := hG2.push1 hgD (by omega) ((t, T, ct), (u, U, cu)) (D.heap.size) hz8 (RepP.mono (fun _ h => h) (fun p (hp : p.block < B) => (hG2.bel.cell (by omega)).trans (HOD.out.bel.cell (by omega))) _ _ _ HRT.out) (RepP.mono (fun _ h => h) (fun p (hp : p.block < B) => (hG2.bel.cell (by omega)).trans (HOD.out.bel.cell (by omega))) _ _ _ HRU.out) (by omega);refine qab rfl rfl (fun K hK => ?_);refine qag (by rfl) (.tmp 115) (.tmp 119) (by rfl) (by rfl) (by rfl) hap1 ?_
       refine hK _ _ ⟨⟨fun _ => ⟨World.cell?_of_block (hG3.same gb hgD m1.1 m1.2), World.cell?_of_block (hG3.same gb hgD m1.1 m1.2)⟩, fun p hp _ h1 h2 => World.cell?_of_block (hG3.same _ hp h1 h2)⟩, ?_⟩;clear hK K hap1;simp only [Act.put, List.setIfInBounds_toArray];have hz4 := (hk3 _ (Array.getElem?_eq_some_iff.1 hz4).1 (fun e => by have := hnp _ e; omega)).trans hz4;obtain ⟨g8, c8, W4, hap2, hG4, hk4, hsz4⟩ := hG3.push2 hgD (by omega) x HXK.out HXN.out (W1.heap.size) hz4 hvl2;refine qab rfl rfl (fun K hK => ?_);refine qag (by rfl) (.tmp 124) (.tmp 126) (by rfl) (by rfl) (by rfl) hap2 ?_;refine hK _ _ ⟨⟨fun _ => ⟨World.cell?_of_block (hG4.same gb hgD m1.1 m1.2), World.cell?_of_block (hG4.same gb hgD m1.1 m1.2)⟩, fun p hp _ h1 h2 => World.cell?_of_block (hG4.same _ hp h1 h2)⟩, ?_⟩;clear hK K hap2;simp only [Act.put, List.setIfInBounds_toArray]
       have hgc := (hG4.same gb hgD m1.1 m1.2).trans HOD.out.gen.cell;obtain ⟨c0, c1, c2, c3, cf⟩ := qad (show W4.heap[gb]? = some (.cells #[.slice nn.A nn.L.length nn.c, .int .i64 ((F + 1 : Nat) : Int), .slice PA its.length Pc, .slice VA vts.length Vc] 77 (0, 0)) from hgc);have hfin := HOD.out.grown hBm hmb hgl (fun k e => (hnp k e).1) (fun k e => (hnv k e).1) hG4 (g' := addG N t u g) (by show qa9 N g.next + 1 = F + 1; rw [HFE.out]) (by rw [List.map_append]; show _ ++ [(t, u)] = _; rw [HOD.out.gen.pairs]; rfl) (by rw [List.map_append]; show _ ++ [x] = _; rw [HOD.out.gen.vars, ← HXV.out]; rfl) (fun y hy => by
        rcases List.mem_append.1 hy with hy | hy
        ·exact HOD.out.gen.leaf y hy
        ·rw [List.mem_singleton] at hy; subst hy; exact HXK.out)
       rw [List.length_append, List.length_append] at hfin;have hxw := (hG4.same xb hxD m4.1 m4.2).trans HX5.out;refine qab rfl rfl (fun K hK => ?_);go_wp2_with fail
       refine ⟨⟨fun _ => ⟨World.cell?_of_block (hG4.same gb hgD m1.1 m1.2), World.cell?_of_block (hG4.same gb hgD m1.1 m1.2)⟩, fun p hp hne h1 h2 => World.cell?_of_block (hG4.same _ hp h1 h2)⟩, ?_⟩;refine qab rfl rfl (fun K hK => ?_);go_wp2_with fail
       refine ⟨⟨fun _ => ⟨World.cell?_of_block (hG4.same gb hgD m1.1 m1.2), World.cell?_of_block (hG4.same gb hgD m1.1 m1.2)⟩, fun p hp hne h1 h2 => World.cell?_of_block (hG4.same _ hp h1 h2)⟩, ?_⟩;refine qab rfl rfl (fun K hK => ?_);go_wp2_with fail
       refine ⟨⟨fun h => absurd h (by decide), fun p hp hne h1 h2 => (World.cell?_of_block (Below.heap_setCell _ _ _ _ hne)).trans (World.cell?_of_block (hG4.same _ hp h1 h2))⟩, ?_⟩;refine qab rfl rfl (fun K hK => ?_);go_wp2_with fail
       refine ⟨⟨fun h => absurd h (by decide), fun p hp hne h1 h2 => (World.cell?_of_block (Below.heap_setCell _ _ _ _ hne)).trans (World.cell?_of_block (hG4.same _ hp h1 h2))⟩, ?_⟩;refine qab rfl rfl (fun K hK => ?_);go_wp2_with fail
       refine ⟨⟨fun h => absurd h (by decide), fun p hp hne h1 h2 => (World.cell?_of_block (Below.heap_setCell _ _ _ _ hne)).trans (World.cell?_of_block (hG4.same _ hp h1 h2))⟩, ?_⟩;refine qab rfl rfl (fun K hK => ?_);go_wp2_with fail
       refine ⟨⟨fun h => absurd h (by decide), fun p hp hne h1 h2 => (World.cell?_of_block (Below.heap_setCell _ _ _ _ hne)).trans ((World.cell?_of_block (Below.heap_setCell _ _ _ _ hne)).trans (World.cell?_of_block (hG4.same _ hp h1 h2)))⟩, qap ?_⟩;clear c0 c1 c2 c3 cf;obtain ⟨WF, hWF⟩ : ∃ WF, WF = (W4.setCell ⟨gb, 2, none⟩ (.slice (some ⟨g9, 0, none⟩) (its.length + 1) c9)).setCell ⟨gb, 3, none⟩ (.slice (some ⟨g8, 0, none⟩) (vts.length + 1) c8) := ⟨_, rfl⟩;have hfin : ROAt gb mb nn B N (addG N t u g) PA VA w (boxT t T ct) (boxT u U cu) (some ⟨g9, 0, none⟩) c9 (some ⟨g8, 0, none⟩) c8 (its ++ [((t, T, ct), (u, U, cu))]) (vts ++ [(x, none, 0)]) WF := by rw [hWF]; exact hfin
       have hxF : WF.heap[xb]? = some (boxT x none 0) := by
        rw [hWF, Below.heap_setCell _ _ _ _ (by show xb ≠ gb; omega), Below.heap_setCell _ _ _ _ (by show xb ≠ gb; omega)];exact hxw
       rw [← hWF];clear hWF;obtain ⟨d0, d1, d2, d3, -⟩ := qam x (hxF);obtain ⟨z0, z1, z2, z3, zf⟩ := qad hfin.b3;go_wp2_with fail
       refine bodyPost_ret (v := .agg #[.int .i64 x.kind, .string x.name, .int .i64 x.sort, .slice none x.kids.length 0]) ?_ rfl ?_
       ·simp [results, Tryz.results53, go_sem, z0, z1, z2, z3]
       have hres : res = (x, addG N t u g) := by rw [HR.out, HXV.out]
       have hrp : RepP WF (fun b => b < B ∨ (w.heap.size + 3 ≤ b ∧ b < WF.heap.size ∧ ownA (some ⟨g9, 0, none⟩) ≠ some b ∧ ownA (some ⟨g8, 0, none⟩) ≠ some b)) x none 0 := by
        clear hfin hxF hxw hres HXV HX5 HR;obtain ⟨x1, x2, x3, x4⟩ := x;have hx4 : x4 = [] := HXK.out;subst hx4;rw [qa7];exact ⟨HXN.out, Nat.le_refl _, Nat.zero_le _, .inl rfl⟩
       have hat := hfin.give hB hgl hmb (fun k e => (hnp k e).1) (fun k e => (hnv k e).1) hrp;refine ⟨none, 0, some ⟨g9, 0, none⟩, c9, some ⟨g8, 0, none⟩, c8, its ++ [((t, T, ct), (u, U, cu))], vts ++ [(x, none, 0)], by rw [hres]; rfl, ?_⟩;rw [hres];exact hat
     ·skip
      refine qab rfl rfl (fun K hK => ?_);go_wp2_with fail
      obtain ⟨W1, hM⟩ : ∃ M, M = D.alloc (.cells #[.int .i64 x.kind, .string x.name, .int .i64 x.sort, .slice none x.kids.length 0] 24) := ⟨_, rfl⟩;have hbc : Below D.heap.size D W1 := by rw [hM]; exact qaf (Nat.le_refl _) _
      have hsz1 : D.heap.size < W1.heap.size := by rw [hM]; simp
      have hz4 : W1.heap[D.heap.size]? = some (boxT x none 0) := by rw [hM]; exact heap_alloc_new _ _
      rw [← hM];clear hM;have hG1 := hG0.alloc hgD hbc;refine ⟨⟨fun _ => ⟨World.cell?_of_block (hG1.same gb hgD m1.1 m1.2), World.cell?_of_block (hG1.same gb hgD m1.1 m1.2)⟩, fun p hp _ h1 h2 => World.cell?_of_block (hG1.same _ hp h1 h2)⟩, ?_⟩;clear hbc;refine qab rfl rfl (fun K hK => ?_);go_wp2_with fail
      obtain ⟨W2, hM⟩ : ∃ M, M = W1.alloc (.cells #[.int .i64 t.kind, .string t.name, .int .i64 t.sort, .slice T t.kids.length ct, .int .i64 u.kind, .string u.name, .int .i64 u.sort, .slice U u.kids.length cu] 57) := ⟨_, rfl⟩;have hbc : Below W1.heap.size W1 W2 := by rw [hM]; exact qaf (Nat.le_refl _) _
      have hsz2 : W1.heap.size < W2.heap.size := by rw [hM]; simp
      have hz8 : W2.heap[W1.heap.size]? = some (.cells (bCells [((t, T, ct), (u, U, cu))]).toArray 57 (0, 0)) := by rw [hM]; exact heap_alloc_new _ _
      rw [← hM];clear hM;have hG2 := hG1.alloc hgD hbc;refine ⟨⟨fun _ => ⟨World.cell?_of_block (hG2.same gb hgD m1.1 m1.2), World.cell?_of_block (hG2.same gb hgD m1.1 m1.2)⟩, fun p hp _ h1 h2 => World.cell?_of_block (hG2.same _ hp h1 h2)⟩, ?_⟩;have hz4 := (hbc.block _ (Array.getElem?_eq_some_iff.1 hz4).1).trans hz4;clear hbc;obtain ⟨g9, c9, W3, hap1, hG3, hk3, hsz3⟩ := hG2.push1 hgD (by omega) ((t, T, ct), (u, U, cu)) (W1.heap.size) hz8 (RepP.mono (fun _ h => h) (fun p (hp : p.block < B) => (hG2.bel.cell (by omega)).trans (HOD.out.bel.cell (by omega))) _ _ _ HRT.out) (RepP.mono (fun _ h => h) (fun p (hp : p.block < B) => (hG2.bel.cell (by omega)).trans (HOD.out.bel.cell (by omega))) _ _ _ HRU.out) (by omega);refine qab rfl rfl (fun K hK => ?_);refine qag (by rfl) (.tmp 115) (.tmp 119) (by rfl) (by rfl) (by rfl) hap1 ?_
      refine hK _ _ ⟨⟨fun _ => ⟨World.cell?_of_block (hG3.same gb hgD m1.1 m1.2), World.cell?_of_block (hG3.same gb hgD m1.1 m1.2)⟩, fun p hp _ h1 h2 => World.cell?_of_block (hG3.same _ hp h1 h2)⟩, ?_⟩;clear hK K hap1;simp only [Act.put, List.setIfInBounds_toArray];have hz4 := (hk3 _ (Array.getElem?_eq_some_iff.1 hz4).1 (fun e => by have := hnp _ e; omega)).trans hz4;obtain ⟨g8, c8, W4, hap2, hG4, hk4, hsz4⟩ := hG3.push2 hgD (by omega) x HXK.out HXN.out (D.heap.size) hz4 hvl2;refine qab rfl rfl (fun K hK => ?_);refine qag (by rfl) (.tmp 124) (.tmp 126) (by rfl) (by rfl) (by rfl) hap2 ?_;refine hK _ _ ⟨⟨fun _ => ⟨World.cell?_of_block (hG4.same gb hgD m1.1 m1.2), World.cell?_of_block (hG4.same gb hgD m1.1 m1.2)⟩, fun p hp _ h1 h2 => World.cell?_of_block (hG4.same _ hp h1 h2)⟩, ?_⟩;clear hK K hap2;simp only [Act.put, List.setIfInBounds_toArray]
      have hgc := (hG4.same gb hgD m1.1 m1.2).trans HOD.out.gen.cell;obtain ⟨c0, c1, c2, c3, cf⟩ := qad (show W4.heap[gb]? = some (.cells #[.slice nn.A nn.L.length nn.c, .int .i64 ((F + 1 : Nat) : Int), .slice PA its.length Pc, .slice VA vts.length Vc] 77 (0, 0)) from hgc);have hfin := HOD.out.grown hBm hmb hgl (fun k e => (hnp k e).1) (fun k e => (hnv k e).1) hG4 (g' := addG N t u g) (by show qa9 N g.next + 1 = F + 1; rw [HFE.out]) (by rw [List.map_append]; show _ ++ [(t, u)] = _; rw [HOD.out.gen.pairs]; rfl) (by rw [List.map_append]; show _ ++ [x] = _; rw [HOD.out.gen.vars, ← HXV.out]; rfl) (fun y hy => by
       rcases List.mem_append.1 hy with hy | hy
       ·exact HOD.out.gen.leaf y hy
       ·rw [List.mem_singleton] at hy; subst hy; exact HXK.out)
      rw [List.length_append, List.length_append] at hfin;have hxw := (hG4.same xb hxD m4.1 m4.2).trans HX5.out;refine qab rfl rfl (fun K hK => ?_);go_wp2_with fail
      refine ⟨⟨fun _ => ⟨World.cell?_of_block (hG4.same gb hgD m1.1 m1.2), World.cell?_of_block (hG4.same gb hgD m1.1 m1.2)⟩, fun p hp hne h1 h2 => World.cell?_of_block (hG4.same _ hp h1 h2)⟩, ?_⟩;refine qab rfl rfl (fun K hK => ?_);go_wp2_with fail
      refine ⟨⟨fun _ => ⟨World.cell?_of_block (hG4.same gb hgD m1.1 m1.2), World.cell?_of_block (hG4.same gb hgD m1.1 m1.2)⟩, fun p hp hne h1 h2 => World.cell?_of_block (hG4.same _ hp h1 h2)⟩, ?_⟩;refine qab rfl rfl (fun K hK => ?_);go_wp2_with fail
      refine ⟨⟨fun h => absurd h (by decide), fun p hp hne h1 h2 => (World.cell?_of_block (Below.heap_setCell _ _ _ _ hne)).trans (World.cell?_of_block (hG4.same _ hp h1 h2))⟩, ?_⟩;refine qab rfl rfl (fun K hK => ?_);go_wp2_with fail
      refine ⟨⟨fun h => absurd h (by decide), fun p hp hne h1 h2 => (World.cell?_of_block (Below.heap_setCell _ _ _ _ hne)).trans (World.cell?_of_block (hG4.same _ hp h1 h2))⟩, ?_⟩;refine qab rfl rfl (fun K hK => ?_);go_wp2_with fail
      refine ⟨⟨fun h => absurd h (by decide), fun p hp hne h1 h2 => (World.cell?_of_block (Below.heap_setCell _ _ _ _ hne)).trans (World.cell?_of_block (hG4.same _ hp h1 h2))⟩, ?_⟩;refine qab rfl rfl (fun K hK => ?_);go_wp2_with fail
      refine ⟨⟨fun h => absurd h (by decide), fun p hp hne h1 h2 => (World.cell?_of_block (Below.heap_setCell _ _ _ _ hne)).trans ((World.cell?_of_block (Below.heap_setCell _ _ _ _ hne)).trans (World.cell?_of_block (hG4.same _ hp h1 h2)))⟩, qap ?_⟩;clear c0 c1 c2 c3 cf;obtain ⟨WF, hWF⟩ : ∃ WF, WF = (W4.setCell ⟨gb, 2, none⟩ (.slice (some ⟨g9, 0, none⟩) (its.length + 1) c9)).setCell ⟨gb, 3, none⟩ (.slice (some ⟨g8, 0, none⟩) (vts.length + 1) c8) := ⟨_, rfl⟩;have hfin : ROAt gb mb nn B N (addG N t u g) PA VA w (boxT t T ct) (boxT u U cu) (some ⟨g9, 0, none⟩) c9 (some ⟨g8, 0, none⟩) c8 (its ++ [((t, T, ct), (u, U, cu))]) (vts ++ [(x, none, 0)]) WF := by rw [hWF]; exact hfin
      have hxF : WF.heap[xb]? = some (boxT x none 0) := by
       rw [hWF, Below.heap_setCell _ _ _ _ (by show xb ≠ gb; omega), Below.heap_setCell _ _ _ _ (by show xb ≠ gb; omega)];exact hxw
      rw [← hWF];clear hWF;obtain ⟨d0, d1, d2, d3, -⟩ := qam x (hxF);obtain ⟨z0, z1, z2, z3, zf⟩ := qad hfin.b3;go_wp2_with fail
      refine bodyPost_ret (v := .agg #[.int .i64 x.kind, .string x.name, .int .i64 x.sort, .slice none x.kids.length 0]) ?_ rfl ?_
      ·simp [results, Tryz.results53, go_sem, z0, z1, z2, z3]
      have hres : res = (x, addG N t u g) := by rw [HR.out, HXV.out]
      have hrp : RepP WF (fun b => b < B ∨ (w.heap.size + 3 ≤ b ∧ b < WF.heap.size ∧ ownA (some ⟨g9, 0, none⟩) ≠ some b ∧ ownA (some ⟨g8, 0, none⟩) ≠ some b)) x none 0 := by
       clear hfin hxF hxw hres HXV HX5 HR;obtain ⟨x1, x2, x3, x4⟩ := x;have hx4 : x4 = [] := HXK.out;subst hx4;rw [qa7];exact ⟨HXN.out, Nat.le_refl _, Nat.zero_le _, .inl rfl⟩
      have hat := hfin.give hB hgl hmb (fun k e => (hnp k e).1) (fun k e => (hnv k e).1) hrp;refine ⟨none, 0, some ⟨g9, 0, none⟩, c9, some ⟨g8, 0, none⟩, c8, its ++ [((t, T, ct), (u, U, cu))], vts ++ [(x, none, 0)], by rw [hres]; rfl, ?_⟩;rw [hres];exact hat
end Go.Proofs.YtpjmdilpldaapaaGreatDoor
