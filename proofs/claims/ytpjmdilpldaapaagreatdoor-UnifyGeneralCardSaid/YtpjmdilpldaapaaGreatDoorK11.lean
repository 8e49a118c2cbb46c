/- Ustep2 (joined by shake.py). -/
import Derived.Test.YtpjmdilpldaapaaGreatDoorK10
set_option maxRecDepth 100000
namespace Go.Proofs.YtpjmdilpldaapaaGreatDoor
open Go.RowKit Go.Sort
theorem qc1 {W : World} {B : Nat} {a b c d x y z u : Value} {T : TypeId} (h : W.heap[B]? = some (.cells #[a, b, c, d] T (0, 0))) :
  ((((W.setCell ⟨B, 0, none⟩ x).setCell ⟨B, 1, none⟩ y).setCell ⟨B, 2, none⟩ z).setCell ⟨B, 3, none⟩ u).heap[B]? = some (.cells #[x, y, z, u] T (0, 0)) := by
 simp [World.setCell, Array.getElem?_modify, h]
theorem qjj {W : World} {B : Nat} {a b x : Value} {T : TypeId} (h : W.heap[B]? = some (.cells #[a, b] T (0, 0))) : (W.setCell ⟨B, 0, none⟩ x).heap[B]? = some (.cells #[x, b] T (0, 0)) := by
 simp [World.setCell, Array.getElem?_modify, h]
theorem qb1.rep' {xb : Nat} {v : Value} {w w' : World} {t : Tm} {A : Option Addr} {c : Nat} (h : RepP w (qb1 xb v w) t A c) (hs : w.heap.size ≤ w'.heap.size) (hb : ∀ b, b < w.heap.size → b ≠ xb → w'.heap[b]? = w.heap[b]?) : RepP w' (qb1 xb v w') t A c :=
 RepP.mono (fun _ ⟨h1, h2, h3⟩ => ⟨h1, Nat.lt_of_lt_of_le h2 hs, h3⟩) (fun _ hp => World.cell?_of_block (hb _ hp.2.1 hp.1)) _ _ _ h
theorem qb1.repT {xb : Nat} {v : Value} {w : World} {t : Tm} {A : Option Addr} {c : Nat} (h : RepP w (qb1 xb v w) t A c) : RepT w w.heap.size t A c := RepP.mono (fun _ h => h.2.1) (fun _ _ => rfl) _ _ _ h
theorem qb6 (t : Tm) : t.kids.length ≤ t.size := by
 obtain ⟨k, n, s, l⟩ := t;have := Tm.length_le_sizes l;rw [Tm.size];show l.length ≤ _;omega
structure AtU (xb n bx by' : Nat) (ob o1 o2 : Obj) (w Z : World) : Prop where
 bel : Below xb w Z
 old : ∀ k, k < n → k ≠ xb → Z.heap[k]? = w.heap[k]?
 st : Z.heap[xb]? = some ob
 one : Z.heap[bx]? = some o1
 two : Z.heap[by']? = some o2
 size : n ≤ Z.heap.size
theorem AtU.go {xb n bx by' : Nat} {ob o1 o2 : Obj} {w Z Z' : World} (h : AtU xb n bx by' ob o1 o2 w Z) (hb : Below Z.heap.size Z Z') : AtU xb n bx by' ob o1 o2 w Z' := by
 have hx := (Array.getElem?_eq_some_iff.1 h.st).1;exact ⟨h.bel.trans (hb.mono (Nat.le_of_lt hx)), fun k hk hx => (hb.block k (Nat.lt_of_lt_of_le hk h.size)).trans (h.old k hk hx), (hb.block _ hx).trans h.st, (hb.block _ (Array.getElem?_eq_some_iff.1 h.one).1).trans h.one, (hb.block _ (Array.getElem?_eq_some_iff.1 h.two).1).trans h.two, Nat.le_trans h.size hb.size⟩
theorem AtU.swap {xb n bx by' : Nat} {ob : Obj} {w Z : World} {a b : Tm} {A A' : Option Addr} {c c' : Nat} (h : AtU xb n bx by' ob (boxT a A c) (boxT b A' c') w Z) (hx : n ≤ bx) (hy : n ≤ by') (hxy : bx ≠ by') (hxb : xb < n) :
  AtU xb n bx by' ob (boxT b A' c') (boxT a A c) w ((((((((Z.setCell ⟨bx, 0, none⟩ (.int .i64 b.kind)).setCell ⟨bx, 1, none⟩ (.string b.name)).setCell ⟨bx, 2, none⟩ (.int .i64 b.sort)).setCell ⟨bx, 3, none⟩ (.slice A' b.kids.length c')).setCell ⟨by', 0, none⟩ (.int .i64 a.kind)).setCell ⟨by', 1, none⟩ (.string a.name)).setCell ⟨by', 2, none⟩ (.int .i64 a.sort)).setCell ⟨by', 3, none⟩ (.slice A a.kids.length c)) := by
 have h1 := qc1 (x := .int .i64 b.kind) (y := .string b.name) (z := .int .i64 b.sort) (u := .slice A' b.kids.length c') h.one;have h2 := h.two;obtain ⟨Y, hY⟩ : ∃ Y, Y = (((Z.setCell ⟨bx, 0, none⟩ (.int .i64 b.kind)).setCell ⟨bx, 1, none⟩ (.string b.name)).setCell ⟨bx, 2, none⟩ (.int .i64 b.sort)).setCell ⟨bx, 3, none⟩ (.slice A' b.kids.length c') := ⟨_, rfl⟩;have hoY : ∀ k, k ≠ bx → Y.heap[k]? = Z.heap[k]? := fun k hk => by rw [hY]; iterate 4 rw [Below.heap_setCell _ _ _ _ hk]
 have hbY : Below xb w Y := by
  rw [hY]
  iterate 4 refine Below.setCell ?_ (by show xb ≤ bx; omega) _
  exact h.bel
 have hsY : Y.heap.size = Z.heap.size := by rw [hY]; simp [World.setCell]
 rw [← hY] at h1 ⊢;have hoV : ∀ k, k ≠ by' → ((((Y.setCell ⟨by', 0, none⟩ (.int .i64 a.kind)).setCell ⟨by', 1, none⟩ (.string a.name)).setCell ⟨by', 2, none⟩ (.int .i64 a.sort)).setCell ⟨by', 3, none⟩ (.slice A a.kids.length c)).heap[k]? = Y.heap[k]? := fun k hk => by iterate 4 rw [Below.heap_setCell _ _ _ _ hk]
 refine ⟨?_, fun k hk hkx => ((hoV k (by omega)).trans (hoY k (by omega))).trans (h.old k hk hkx), ((hoV _ (by omega)).trans (hoY _ (by omega))).trans h.st, (hoV _ hxy).trans h1, qc1 ((hoY _ (by omega)).trans h2), ?_⟩
 ·iterate 4 refine Below.setCell ?_ (by show xb ≤ by'; omega) _
  exact hbY
 ·have := h.size;simp [World.setCell]; omega
theorem RepP.kidsP {w : World} {P : Nat → Prop} {t : Tm} {A : Option Addr} {c : Nat} (h : RepP w P t A c) : t.kids.length ≤ c ∧ c ≤ maxLen ∧ (t.kids = [] ∨ ∃ b off, A = some ⟨b, off, none⟩ ∧ P b ∧ qao w P t.kids b off) := by
 obtain ⟨k, n, s, l⟩ := t;rw [qa7] at h;exact h.2
theorem RowG.behind {S T : TypeId} (E : Elem8 S T) {w : World} {base : Nat} {F : Nat → Prop} {v : Value} {its : List IB} (hrow : RowG T w base F v its) (hF : ∀ b, F b → b < base) (hbase : base ≤ w.heap.size) (b off c m : Nat) (news : List IB) (hm : m = news.length)
  (hc : ∀ j u, (bCells news)[j]? = some u → w.cell? ⟨b, off + j, none⟩ = some u) (hN : ∀ x ∈ news, RepP w F x.1.1 x.1.2.1 x.1.2.2 ∧ RepP w F x.2.1 x.2.2.1 x.2.2.2) (hlen : its.length + m ≤ 100000000) :
  ∃ A' c' w', (∀ ty, (Builtin.append_ #[S, S] ty #[v, .slice (some ⟨b, off, none⟩) m c]).run Tryz.prog w = .ok (.slice A' (its.length + m) c') w') ∧
   RowG T w' base F (.slice A' (its.length + m) c') (its ++ news) ∧ w.grownBy w' v.ownBlock := by
 subst hm;obtain ⟨i0, hi0, hz0, hz1, hz2⟩ := info_parts E.info;have hadd : ∀ j, (⟨b, off, none⟩ : Addr).add j = ⟨b, off + j, none⟩ := fun j => by unfold Addr.add; split <;> simp_all
 obtain ⟨v', w', hr, ho, hg, hnil⟩ := run_append_own (P := Tryz.prog) w base S 0 T i0 _ 8 112 E.und hi0 hz0 hz1 hz2 rfl (by omega) v its.length (bCells its) hrow.own ⟨b, off, none⟩ news.length c (bCells news)
  (qbc news) (fun j u hj => by rw [hadd]; exact hc j u hj) (qee news) (by unfold maxLen; omega) (by omega) hbase
 have hrow' : RowG T w' base F v' (its ++ news) := by
  refine ⟨by rw [qcv, List.length_append]; exact ho, fun x hx => ?_⟩;have key : ∀ (t : Tm) A c, RepP w (fun b => F b ∧ b < w.heap.size) t A c → RepP w' (fun b => F b ∧ b < w'.heap.size ∧ v'.ownBlock ≠ Option.some b) t A c := fun t A c hr => by
   refine RepP.mono ?_ ?_ _ _ _ hr
   ·rintro k ⟨h1, h2⟩;have hk := hF k h1;refine ⟨h1, Nat.lt_of_lt_of_le h2 hg.size, fun e => ?_⟩;have := (ho.lt k e).1; omega
   ·rintro p ⟨h1, h2⟩;have hk := hF p.block h1;exact World.cell?_of_block (hg.block p.block h2 (fun e => by have := (hrow.own.lt _ e.symm).1; omega))
  rcases List.mem_append.1 hx with hx | hx
  ·exact ⟨key _ _ _ (RepP.mono (fun b h => ⟨h.1, h.2.1⟩) (fun _ _ => rfl) _ _ _ (hrow.reps x hx).1), key _ _ _ (RepP.mono (fun b h => ⟨h.1, h.2.1⟩) (fun _ _ => rfl) _ _ _ (hrow.reps x hx).2)⟩
  ·exact ⟨key _ _ _ (RepP.mono (fun b h1 => ⟨h1, by have := hF b h1; omega⟩) (fun _ _ => rfl) _ _ _ (hN x hx).1), key _ _ _ (RepP.mono (fun b h1 => ⟨h1, by have := hF b h1; omega⟩) (fun _ _ => rfl) _ _ _ (hN x hx).2)⟩
 rcases ho.2 with ⟨rfl, h0⟩ | ⟨g, c', cur, rfl, _⟩
 ·rw [h0];exact ⟨none, 0, w', fun ty => hr, hrow', hg⟩
 ·exact ⟨_, c', w', fun ty => hr, hrow', hg⟩
def qkf (q : Tm × Tm × Int) (ps bs : List Bd) : Int × List Bd × List Bd :=
 if q.2.2 ≠ 0 then (q.2.2, ps, bs) else (if qc8 q.1 q.2.1 ps bs = true then 0 else 3, ps.map (putP q.1 q.2.1), bs.map (putB q.1 q.2.1) ++ [(q.1, q.2.1)])
theorem qhe {x t : Tm} {ps bs : List Bd} (h : fits x t = false) : qkf (oneU x t) ps bs = (11, ps, bs) := by
 unfold oneU; rw [if_pos h]; rfl
theorem qlb {x t : Tm} {ps bs : List Bd} (h : fits x t = true) (h2 : occT x t = true) : qkf (oneU x t) ps bs = (12, ps, bs) := by
 unfold oneU; rw [if_neg (by rw [h]; decide), if_pos h2]; rfl
theorem qja {x t : Tm} {ps bs : List Bd} (h : fits x t = true) (h2 : occT x t = false) : qkf (oneU x t) ps bs = (rightE x t ps bs, ps.map (putP x t), bs.map (putB x t) ++ [(x, t)]) := by
 unfold oneU; rw [if_neg (by rw [h]; decide), if_neg (by rw [h2]; decide)]; rfl
def qlx (xb : Nat) (r : Int × List Bd × List Bd) (w : World) (e : Ending) (w' : World) : Prop :=
 e = .returned (.int .i64 r.1) ∧ (r.1 = 0 → StU xb r.2.1 r.2.2 w') ∧ Below xb w w'
theorem qkc {xb : Nat} {q : Tm × Tm × Int} {ps bs : List Bd} {w W w' : World} {e : Ending} (h : TwoU xb q ps bs W e w') (hb : Below xb w W) (hx : xb ≤ W.heap.size) : qlx xb (qkf q ps bs) w e w' := by
 unfold qkf;rcases h with ⟨h1, h2, h3⟩ | ⟨h1, w0, h2, h3, h4, h5⟩
 ·rw [if_pos h1];exact ⟨h2, fun h => absurd h h1, hb.trans (h3.mono hx)⟩
 ·rw [if_neg (by simpa using h1)];exact ⟨h3, fun _ => h4, (hb.trans (h2.mono hx)).trans h5⟩
set_option maxHeartbeats 4000000 in
theorem step_any (xb : Nat) (p : Bd) (ps bs : List Bd) (PA : Option Addr) (Pc : Nat) (BA : Option Addr) (Bc : Nat) (its : List IB) (w : World) (hS : StV xb (p :: ps) bs PA Pc BA Bc its w) (hg : qjk (p :: ps) bs = true) :
  Calls Tryz.prog 61 #[.pointer (some ⟨xb, 0, none⟩)] w (qlx xb (qbw p.1 p.2 ps bs) w) := by
 have mixed : Tryz.prog.follows .mixedOrders = true := by kernel_rfl
 obtain ⟨hpl, hbl, hpv, hbv⟩ := qdj.1 hg;have hxb := (Array.getElem?_eq_some_iff.1 hS.cell).1;obtain ⟨hva, hvb⟩ := hpv p (List.mem_cons_self ..);have hpv' : ∀ q ∈ ps, q.1.valid = 0 ∧ q.2.valid = 0 := fun q hq => hpv q (List.mem_cons_of_mem _ hq);have hc1 := hS.pairs.1;have hc2 := hS.pairs.2.1;unfold maxLen at hc2;have hpls : ps.length + 1 ≤ 1000000 := by simpa using hpl
 obtain ⟨pb, off, rfl, hpb, hlp⟩ : ∃ pb off, PA = some ⟨pb, off, none⟩ ∧ qb1 xb (.slice BA its.length Bc) w pb ∧ qao w (qb1 xb (.slice BA its.length Bc) w) (flat (p :: ps)) pb off := by
  rcases hS.pairs.2.2 with h | ⟨pb, off, h1, h2, h3⟩
  ·cases h
  ·exact ⟨pb, off, h1, h2, h3⟩
 obtain ⟨a, b⟩ := p;rw [flat, qao, qao] at hlp;obtain ⟨⟨A, c, k0, k1, k2, k3, hra⟩, ⟨A', c', l0, l1, l2, l3, hrb⟩, hlr⟩ := hlp;dsimp only at k0 k1 k2 k3 l0 l1 l2 l3 hra hrb hva hvb;obtain ⟨x0, x1, xf⟩ := qci hS.cell;have x0 : w.drew.cell? ⟨xb, 0, none⟩ = some (.slice (some ⟨pb, off, none⟩) (ps.length + 1) Pc) := x0;have k0 : w.drew.cell? ⟨pb, off, none⟩ = _ := k0;have k1 : w.drew.cell? ⟨pb, off + 1, none⟩ = _ := k1;have k2 : w.drew.cell? ⟨pb, off + 2, none⟩ = _ := k2;have k3 : w.drew.cell? ⟨pb, off + 3, none⟩ = _ := k3;have l0 : w.drew.cell? ⟨pb, off + 4, none⟩ = _ := l0;have l1 : w.drew.cell? ⟨pb, off + 4 + 1, none⟩ = _ := l1;have l2 : w.drew.cell? ⟨pb, off + 4 + 2, none⟩ = _ := l2;have l3 : w.drew.cell? ⟨pb, off + 4 + 3, none⟩ = _ := l3;have hpbl := hpb.2.1;have hsd : w.drew.heap.size = w.heap.size := rfl;have hbd : Below w.heap.size w w.drew := (Below.refl _ _).drew
 have HPB := Lib.hid hpb; clear hpb;have HLR := Lib.hid hlr; clear hlr;have HRA := Lib.hid hra; clear hra;have HRB := Lib.hid hrb; clear hrb;have HVA := Lib.hid hva; clear hva;have HVB := Lib.hid hvb; clear hvb;have HPV := Lib.hid hpv'; clear hpv' hpv;have HBV := Lib.hid hbv; clear hbv;have HS := Lib.hid hS; clear hS hg;have HSD := Lib.hid hsd; clear hsd;have HBD := Lib.hid hbd; clear hbd;have hcc : ps.length + 1 ≤ Pc := by simpa using hc1
 clear hc1;clear hpl;obtain ⟨r, hr⟩ : ∃ r, r = qbw a b ps bs := ⟨_, rfl⟩;rw [← hr];have HR := Lib.hid hr; clear hr;go_enter Tryz.func61, Tryz.ntmps61
 go_wp2_with fail
 refine qb8 (fun a0 a' w' => ∃ bx by', a' = ((((((((((((((((a0.put (some 7) (.pointer (some ⟨xb, 0, none⟩))).put (some 8) (.pointer (some ⟨xb, 0, none⟩))).put (some 9) (.pointer (some ⟨xb, 0, none⟩))).put (some 10) (.slice (some ⟨pb, off, none⟩) (ps.length + 1) Pc)).put (some 11) (.pointer (some ⟨pb, off, none⟩))).put (some 12) (.pointer (some ⟨pb, off, none⟩))).put (some 13) (.agg #[.int .i64 a.kind, .string a.name, .int .i64 a.sort, .slice A a.kids.length c])).put (some 14) (.pointer (some ⟨xb, 0, none⟩))).put (some 15) (.pointer (some ⟨xb, 0, none⟩))).put (some 16) (.pointer (some ⟨xb, 0, none⟩))).put (some 17) (.slice (some ⟨pb, off, none⟩) (ps.length + 1) Pc)).put (some 18) (.pointer (some ⟨pb, off, none⟩))).put (some 19) (.pointer (some ⟨pb, off + 4, none⟩))).put (some 20) (.agg #[.int .i64 b.kind, .string b.name, .int .i64 b.sort, .slice A' b.kids.length c'])).put (some 3) (.pointer (some ⟨bx, 0, none⟩))).put (some 4) (.pointer (some ⟨by', 0, none⟩))) ∧
   w'.heap[bx]? = some (boxT a A c) ∧ w'.heap[by']? = some (boxT b A' c') ∧ Below w.heap.size w w' ∧ w.heap.size ≤ bx ∧ w.heap.size ≤ by' ∧ bx ≠ by') ?_ ?_
 ·have HB0 := HBD.out;refine qbt (fun Y => Below w.drew.heap.size w.drew Y) 17 (.held 0 (.held 1 (.held 2 (.held 3 (.held 4 (.held 5 (.held 6 (.held 7 (.held 8 (.held 9 (.held 10 (.held 11 (.held 12 (.held 13 (.two 14 15 (.op 15 (.op 16 (.op 17 .nil))) (.op 14 (.op 16 (.op 17 .nil)))))))))))))))))) mixed (by kernel_rfl) ?_;generalize w.drew = W0 at *;refine qaj (v := .pointer (some ⟨xb, 0, none⟩)) rfl rfl (fun _ _ _ h => nomatch h.1) (Below.refl _ _) (fun Y hY => by
   (try simp only [Act.put]); go_simp) ?_
  refine qaj (v := .pointer (some ⟨xb, 0, none⟩)) rfl rfl (fun _ _ _ h => nomatch h.1) (Below.refl _ _) (fun Y hY => by
   (try simp only [Act.put]); go_simp) ?_
  refine qaj (v := .pointer (some ⟨xb, 0, none⟩)) rfl rfl (fun _ _ _ h => nomatch h.1) (Below.refl _ _) (fun Y hY => by
   (try simp only [Act.put]); go_simp) ?_
  refine qaj (v := .slice (some ⟨pb, off, none⟩) (ps.length + 1) Pc) rfl rfl (fun _ _ _ h => nomatch h.1) (Below.refl _ _) (fun Y hY => by
   have z0 := (hY.cell (p := ⟨xb, 0, none⟩) (by show xb < _; have := HSD.out; omega)).trans x0
   (try simp only [Act.put]); go_simp) ?_
  refine qaj (v := .pointer (some ⟨pb, off, none⟩)) rfl rfl (fun _ _ _ h => nomatch h.1) (Below.refl _ _) (fun Y hY => by
   (try simp only [Act.put]); go_simp) ?_
  refine qaj (v := .pointer (some ⟨pb, off, none⟩)) rfl rfl (fun _ _ _ h => nomatch h.1) (Below.refl _ _) (fun Y hY => by
   (try simp only [Act.put]); go_simp) ?_
  refine qaj (v := .agg #[.int .i64 a.kind, .string a.name, .int .i64 a.sort, .slice A a.kids.length c]) rfl rfl (fun _ _ _ h => nomatch h.1) (Below.refl _ _) (fun Y hY => by
   have z0 := (hY.cell (p := ⟨pb, off, none⟩) (by show pb < _; have := HSD.out; omega)).trans k0;have z1 := (hY.cell (p := ⟨pb, off + 1, none⟩) (by show pb < _; have := HSD.out; omega)).trans k1;have z2 := (hY.cell (p := ⟨pb, off + 2, none⟩) (by show pb < _; have := HSD.out; omega)).trans k2;have z3 := (hY.cell (p := ⟨pb, off + 3, none⟩) (by show pb < _; have := HSD.out; omega)).trans k3
   (try simp only [Act.put]); go_simp) ?_
  refine qaj (v := .pointer (some ⟨xb, 0, none⟩)) rfl rfl (fun _ _ _ h => nomatch h.1) (Below.refl _ _) (fun Y hY => by
   (try simp only [Act.put]); go_simp) ?_
  refine qaj (v := .pointer (some ⟨xb, 0, none⟩)) rfl rfl (fun _ _ _ h => nomatch h.1) (Below.refl _ _) (fun Y hY => by
   (try simp only [Act.put]); go_simp) ?_
  refine qaj (v := .pointer (some ⟨xb, 0, none⟩)) rfl rfl (fun _ _ _ h => nomatch h.1) (Below.refl _ _) (fun Y hY => by
   (try simp only [Act.put]); go_simp) ?_
  refine qaj (v := .slice (some ⟨pb, off, none⟩) (ps.length + 1) Pc) rfl rfl (fun _ _ _ h => nomatch h.1) (Below.refl _ _) (fun Y hY => by
   have z0 := (hY.cell (p := ⟨xb, 0, none⟩) (by show xb < _; have := HSD.out; omega)).trans x0
   (try simp only [Act.put]); go_simp) ?_
  refine qaj (v := .pointer (some ⟨pb, off, none⟩)) rfl rfl (fun _ _ _ h => nomatch h.1) (Below.refl _ _) (fun Y hY => by
   (try simp only [Act.put]); go_simp) ?_
  refine qaj (v := .pointer (some ⟨pb, off + 4, none⟩)) rfl rfl (fun _ _ _ h => nomatch h.1) (Below.refl _ _) (fun Y hY => by
   (try simp only [Act.put]); go_simp) ?_
  refine qaj (v := .agg #[.int .i64 b.kind, .string b.name, .int .i64 b.sort, .slice A' b.kids.length c']) rfl rfl (fun _ _ _ h => nomatch h.1) (Below.refl _ _) (fun Y hY => by
   have z0 := (hY.cell (p := ⟨pb, off + 4, none⟩) (by show pb < _; have := HSD.out; omega)).trans l0;have z1 := (hY.cell (p := ⟨pb, off + 4 + 1, none⟩) (by show pb < _; have := HSD.out; omega)).trans l1;have z2 := (hY.cell (p := ⟨pb, off + 4 + 2, none⟩) (by show pb < _; have := HSD.out; omega)).trans l2;have z3 := (hY.cell (p := ⟨pb, off + 4 + 3, none⟩) (by show pb < _; have := HSD.out; omega)).trans l3
   (try simp only [Act.put]); go_simp) ?_
  simp only [Act.put, List.setIfInBounds_toArray];refine mix_two ?_ ?_
  ·skip
   refine mix_op rfl rfl (fun K hK => ?_);go_wp2_with fail
   obtain ⟨M1, hM1⟩ : ∃ M1, M1 = W0.alloc (.cells #[.int .i64 0, .string ⟨#[]⟩, .int .i64 0, .slice none 0 0] 24) := ⟨_, rfl⟩;have hb1 : Below W0.heap.size W0 M1 := by rw [hM1]; exact qaf (Nat.le_refl _) _
   have hs1 : W0.heap.size < M1.heap.size := by rw [hM1]; simp
   have hz1 : M1.heap[W0.heap.size]? = some (.cells #[.int .i64 0, .string ⟨#[]⟩, .int .i64 0, .slice none 0 0] 24 (0, 0)) := by rw [hM1]; exact heap_alloc_new _ _
   rw [← hM1];clear hM1;refine ⟨fun _ => hb1, ?_⟩;refine mix_op rfl rfl (fun K hK => ?_);go_wp2_with fail
   obtain ⟨M2, hM2⟩ : ∃ M2, M2 = M1.alloc (.cells #[.int .i64 0, .string ⟨#[]⟩, .int .i64 0, .slice none 0 0] 24) := ⟨_, rfl⟩;have hb2 : Below M1.heap.size M1 M2 := by rw [hM2]; exact qaf (Nat.le_refl _) _
   have hs2 : M1.heap.size < M2.heap.size := by rw [hM2]; simp
   have hz2 : M2.heap[M1.heap.size]? = some (.cells #[.int .i64 0, .string ⟨#[]⟩, .int .i64 0, .slice none 0 0] 24 (0, 0)) := by rw [hM2]; exact heap_alloc_new _ _
   have hz1' := (hb2.block _ hs1).trans hz1;have hb12 := qae hb1 hb2 hb1.size;rw [← hM2];clear hM2 hz1;refine ⟨fun _ => hb12, ?_⟩;obtain ⟨p0, p1, p2, p3, pf⟩ := qad hz1';obtain ⟨q0, q1, q2, q3, qf⟩ := qad hz2;refine mix_op rfl rfl (fun K hK => ?_);go_wp2_with fail
   obtain ⟨M3, hM3⟩ : ∃ M3, M3 = (((M2.setCell ⟨W0.heap.size, 0, none⟩ (.int .i64 a.kind)).setCell ⟨W0.heap.size, 1, none⟩ (.string a.name)).setCell ⟨W0.heap.size, 2, none⟩ (.int .i64 a.sort)).setCell ⟨W0.heap.size, 3, none⟩ (.slice A a.kids.length c) := ⟨_, rfl⟩;have hx3 : M3.heap[W0.heap.size]? = some (boxT a A c) := by rw [hM3]; exact qc1 hz1'
   have hy3 : M3.heap[M1.heap.size]? = some (.cells #[.int .i64 0, .string ⟨#[]⟩, .int .i64 0, .slice none 0 0] 24 (0, 0)) := by
    rw [hM3]
    iterate 4 rw [Below.heap_setCell _ _ _ _ (by show M1.heap.size ≠ W0.heap.size; omega)]
    exact hz2
   have hb3 : Below W0.heap.size W0 M3 := by
    rw [hM3]
    iterate 4 refine Below.setCell ?_ (by show W0.heap.size ≤ W0.heap.size; omega) _
    exact hb12
   rw [← hM3];clear hM3 p0 p1 p2 p3 pf q0 q1 q2 q3 qf;refine ⟨fun _ => hb3, ?_⟩;obtain ⟨q0, q1, q2, q3, qf⟩ := qad hy3;refine mix_op rfl rfl (fun K hK => ?_);go_wp2_with fail
   refine ⟨fun h => absurd h (by decide), qdx ?_⟩;have hsd := HSD.out;refine ⟨rfl, W0.heap.size, M1.heap.size, rfl, ?_, qc1 hy3, ?_, by omega, by omega, by omega⟩
   ·iterate 4 rw [Below.heap_setCell _ _ _ _ (by show W0.heap.size ≠ M1.heap.size; omega)]
    exact hx3
   ·refine qae HB0 ?_ HB0.size
    iterate 4 refine Below.setCell ?_ (by show W0.heap.size ≤ M1.heap.size; omega) _
    exact hb3
  ·skip
   refine mix_op rfl rfl (fun K hK => ?_);go_wp2_with fail
   obtain ⟨M1, hM1⟩ : ∃ M1, M1 = W0.alloc (.cells #[.int .i64 0, .string ⟨#[]⟩, .int .i64 0, .slice none 0 0] 24) := ⟨_, rfl⟩;have hb1 : Below W0.heap.size W0 M1 := by rw [hM1]; exact qaf (Nat.le_refl _) _
   have hs1 : W0.heap.size < M1.heap.size := by rw [hM1]; simp
   have hz1 : M1.heap[W0.heap.size]? = some (.cells #[.int .i64 0, .string ⟨#[]⟩, .int .i64 0, .slice none 0 0] 24 (0, 0)) := by rw [hM1]; exact heap_alloc_new _ _
   rw [← hM1];clear hM1;refine ⟨fun _ => hb1, ?_⟩;refine mix_op rfl rfl (fun K hK => ?_);go_wp2_with fail
   obtain ⟨M2, hM2⟩ : ∃ M2, M2 = M1.alloc (.cells #[.int .i64 0, .string ⟨#[]⟩, .int .i64 0, .slice none 0 0] 24) := ⟨_, rfl⟩;have hb2 : Below M1.heap.size M1 M2 := by rw [hM2]; exact qaf (Nat.le_refl _) _
   have hs2 : M1.heap.size < M2.heap.size := by rw [hM2]; simp
   have hz2 : M2.heap[M1.heap.size]? = some (.cells #[.int .i64 0, .string ⟨#[]⟩, .int .i64 0, .slice none 0 0] 24 (0, 0)) := by rw [hM2]; exact heap_alloc_new _ _
   have hz1' := (hb2.block _ hs1).trans hz1;have hb12 := qae hb1 hb2 hb1.size;rw [← hM2];clear hM2 hz1;refine ⟨fun _ => hb12, ?_⟩;obtain ⟨p0, p1, p2, p3, pf⟩ := qad hz2;obtain ⟨q0, q1, q2, q3, qf⟩ := qad hz1';refine mix_op rfl rfl (fun K hK => ?_);go_wp2_with fail
   obtain ⟨M3, hM3⟩ : ∃ M3, M3 = (((M2.setCell ⟨M1.heap.size, 0, none⟩ (.int .i64 a.kind)).setCell ⟨M1.heap.size, 1, none⟩ (.string a.name)).setCell ⟨M1.heap.size, 2, none⟩ (.int .i64 a.sort)).setCell ⟨M1.heap.size, 3, none⟩ (.slice A a.kids.length c) := ⟨_, rfl⟩;have hx3 : M3.heap[M1.heap.size]? = some (boxT a A c) := by rw [hM3]; exact qc1 hz2
   have hy3 : M3.heap[W0.heap.size]? = some (.cells #[.int .i64 0, .string ⟨#[]⟩, .int .i64 0, .slice none 0 0] 24 (0, 0)) := by
    rw [hM3]
    iterate 4 rw [Below.heap_setCell _ _ _ _ (by show W0.heap.size ≠ M1.heap.size; omega)]
    exact hz1'
   have hb3 : Below W0.heap.size W0 M3 := by
    rw [hM3]
    iterate 4 refine Below.setCell ?_ (by show W0.heap.size ≤ M1.heap.size; omega) _
    exact hb12
   rw [← hM3];clear hM3 p0 p1 p2 p3 pf q0 q1 q2 q3 qf;refine ⟨fun _ => hb3, ?_⟩;obtain ⟨q0, q1, q2, q3, qf⟩ := qad hy3;refine mix_op rfl rfl (fun K hK => ?_);go_wp2_with fail
   refine ⟨fun h => absurd h (by decide), qdx ?_⟩;have hsd := HSD.out;refine ⟨rfl, M1.heap.size, W0.heap.size, rfl, ?_, qc1 hy3, ?_, by omega, by omega, by omega⟩
   ·iterate 4 rw [Below.heap_setCell _ _ _ _ (by show M1.heap.size ≠ W0.heap.size; omega)]
    exact hx3
   ·refine qae HB0 ?_ HB0.size
    iterate 4 refine Below.setCell ?_ (by show W0.heap.size ≤ W0.heap.size; omega) _
    exact hb3
 rintro a' W3 ⟨bx, by', rfl, hbx, hby, hb3, hx1, hy1, hxy⟩;have hs3 := hb3.size;have hxc := (hb3.block xb hxb).trans HS.out.cell;obtain ⟨x0', x1', xf'⟩ := qci hxc;have x0'' : W3.cell? ⟨xb, 0, none⟩ = some (.slice (some ⟨pb, off, none⟩) (ps.length + 1) Pc) := x0';clear x0';clear x0 x1 xf k0 k1 k2 k3 l0 l1 l2 l3;have HBX := Lib.hid hbx; clear hbx;have HBY := Lib.hid hby; clear hby;have HB3 := Lib.hid hb3; clear hb3;have HXC := Lib.hid hxc; clear hxc
 rename_i K hK
 show K _ _;refine hK _ _ ?_;refine wp_seq_k (fun K2 hK2 => ?_);refine qb8 (fun a0 a' w' => ∃ PA' Pc', a' = ((((((((a0.put (some 21) (.pointer (some ⟨xb, 0, none⟩))).put (some 22) (.pointer (some ⟨xb, 0, none⟩))).put (some 23) (.pointer (some ⟨xb, 0, none⟩))).put (some 24) (.pointer (some ⟨xb, 0, none⟩))).put (some 25) (.slice (some ⟨pb, off, none⟩) (ps.length + 1) Pc)).put (some 26) (.slice PA' ps.length Pc')).put (some 27) (.pointer (some ⟨xb, 0, none⟩))).put (some 28) (.pointer (some ⟨xb, 0, none⟩))) ∧
   w' = W3.setCell ⟨xb, 0, none⟩ (.slice PA' ps.length Pc') ∧ ps.length ≤ Pc' ∧ Pc' ≤ Pc ∧ Hid (PA' = some ⟨pb, off + 8, none⟩ ∨ (ps = [] ∧ PA' = some ⟨pb, off, none⟩))) ?_ ?_
 ·by_cases hP : Pc = 1
  ·have hps0 : ps = [] := List.eq_nil_of_length_eq_zero (by omega);subst hP hps0;go_wp2_with fail
   exact ⟨_, _, ⟨rfl, rfl⟩, rfl, by omega, Lib.hid (.inr rfl)⟩
  ·have hP2 : ¬ Pc - 1 = 0 := by omega
   go_wp2_with fail
   exact ⟨_, _, ⟨rfl, rfl⟩, rfl, by omega, by omega, Lib.hid (.inl rfl)⟩
 rintro a' W4 ⟨PA', Pc', rfl, hW4, hp1, hp2, hp3⟩;have hs4 : W4.heap.size = W3.heap.size := by rw [hW4]; simp [World.setCell]
 have hblk : ∀ k, k ≠ xb → W4.heap[k]? = W3.heap[k]? := fun k hk => by rw [hW4]; exact Below.heap_setCell _ _ _ _ hk
 have hold : ∀ k, k < w.heap.size → k ≠ xb → W4.heap[k]? = w.heap[k]? := fun k hk hx => (hblk k hx).trans (HB3.out.block k hk);have hs34 : w.heap.size ≤ W4.heap.size := by omega
 have hat : AtU xb w.heap.size bx by' (.cells #[.slice PA' ps.length Pc', .slice BA its.length Bc] 85 (0, 0)) (boxT a A c) (boxT b A' c') w W4 :=
  ⟨by rw [hW4]; exact (HB3.out.mono (show xb ≤ w.heap.size by omega)).setCell (p := ⟨xb, 0, none⟩) (Nat.le_refl _) _, hold, by rw [hW4]; exact qjj HXC.out, (hblk bx (by omega)).trans HBX.out, (hblk by' (by omega)).trans HBY.out, hs34⟩
 have good : ∀ (Z : World) (o1 o2 : Obj), AtU xb w.heap.size bx by' (.cells #[.slice PA' ps.length Pc', .slice BA its.length Bc] 85 (0, 0)) o1 o2 w Z → StV xb ps bs PA' Pc' BA Bc its Z ∧ RepP Z (qb1 xb (.slice BA its.length Bc) Z) a A c ∧ RepP Z (qb1 xb (.slice BA its.length Bc) Z) b A' c' := fun Z o1 o2 h => by
  refine ⟨⟨h.st, ⟨hp1, by unfold maxLen; omega, ?_⟩, ?_, HS.out.is⟩, qb1.rep' HRA.out h.size h.old, qb1.rep' HRB.out h.size h.old⟩
  ·rcases hp3.out with h3 | h3
   ·right;refine ⟨pb, off + 8, h3, ⟨HPB.out.1, Nat.lt_of_lt_of_le HPB.out.2.1 h.size, HPB.out.2.2⟩, ?_⟩;exact qao.mono (fun _ ⟨h1, h2, h3⟩ => ⟨h1, Nat.lt_of_lt_of_le h2 h.size, h3⟩) (fun _ hp => World.cell?_of_block (h.old _ hp.2.1 hp.1)) _ _ _ HPB.out HLR.out
   ·exact .inl h3.1
  ·refine HS.out.row.keep h.size (fun k hk hor => h.old k hk ?_);rcases hor with h3 | h3
   ·exact h3
   ·have := (HS.out.row.lt k h3).1; omega
 have HAT := Lib.hid hat; clear hat;have GOOD := Lib.hid good; clear good;have hbxl : w.heap.size ≤ bx := hx1;clear hold hblk HXC x0'' x1' xf' HBX HBY hs3 hs4 HSD HBD hcc;clear hW4 HB3 hK;have HP3 := hp3; clear hp3;have hsa : a.size ≤ 400 := qah HVA.out;have hsb : b.size ≤ 400 := qah HVB.out;have SM := qck a b A A' c c' W4 (by omega) (by omega) (qb1.repT (GOOD.out _ _ _ HAT.out).2.1) (qb1.repT (GOOD.out _ _ _ HAT.out).2.2);have AL : Hid (∀ Z, Calls Tryz.prog 73 #[a.val A c, b.val A' c'] Z fun e w' => e = .returned (.bool (qa1 a b)) ∧ Lay Z.heap.size Z w') := Lib.hid fun Z => qgz a b A A' c c' Z (by have := qb6 a; omega) (by have := qb6 b; omega)
 have IVA : Hid (∀ Z, Calls Tryz.prog 71 #[a.val A c] Z fun e w' => e = .returned (.bool (a.kind == 1)) ∧ Lay Z.heap.size Z w') := Lib.hid fun Z => qdi a A c Z;have IVB : Hid (∀ Z, Calls Tryz.prog 71 #[b.val A' c'] Z fun e w' => e = .returned (.bool (b.kind == 1)) ∧ Lay Z.heap.size Z w') := Lib.hid fun Z => qdi b A' c' Z;have hr := HR.out;unfold qbw at hr;have HR1 := Lib.hid hr; clear hr HR;obtain ⟨a0, a1, a2, a3, af⟩ := qam a (HAT.out.one);obtain ⟨b0, b1, b2, b3, bf⟩ := qam b (HAT.out.two);obtain ⟨qs, hqs⟩ : ∃ q, q = decide (a = b) := ⟨_, rfl⟩;rw [← hqs] at SM;have HQS := Lib.hid hqs; clear hqs;obtain ⟨qk, hqk⟩ : ∃ q, q = qa1 a b := ⟨_, rfl⟩;obtain ⟨qa, hqa⟩ : ∃ q, q = (a.kind == 1) := ⟨_, rfl⟩;obtain ⟨qb, hqb⟩ : ∃ q, q = (b.kind == 1) := ⟨_, rfl⟩;rw [← hqk] at AL HR1;rw [← hqa] at IVA;rw [← hqb] at IVB
 have HQK := Lib.hid hqk; clear hqk;have HQA := Lib.hid hqa; clear hqa;have HQB := Lib.hid hqb; clear hqb;simp only [Tm.val] at SM AL IVA IVB;have SM := Lib.hid SM;go_wp2_with fail
 refine SM.out.mono ?_; clear SM a0 a1 a2 a3 af b0 b1 b2 b3 bf;rintro e w5 ⟨rfl, hl⟩;have hat := HAT.out.go hl.below;clear hl HAT;have HAT := Lib.hid hat; clear hat;obtain ⟨a0, a1, a2, a3, af⟩ := qam a (HAT.out.one);obtain ⟨b0, b1, b2, b3, bf⟩ := qam b (HAT.out.two)
 cases qs with
 | true =>
  have hab : a = b := of_decide_eq_true HQS.out.symm;have hr := HR1.out.trans (if_pos hab);subst hr;clear HR1 HQS hab AL IVA IVB;go_wp2_with fail
  go_ret
  exact ⟨rfl, fun _ => ⟨PA', Pc', BA, Bc, its, (GOOD.out _ _ _ HAT.out).1⟩, HAT.out.bel⟩
 | false =>
 have hab : ¬ a = b := of_decide_eq_false HQS.out.symm;have hr := HR1.out.trans (if_neg hab);have HR2 := Lib.hid hr; clear hr HR1 HQS hab;have AL := Lib.hid (AL.out w5);go_wp2_with fail
 refine AL.out.mono ?_; clear AL a0 a1 a2 a3 af b0 b1 b2 b3 bf;rintro e w6 ⟨rfl, hl⟩;have hat := HAT.out.go hl.below;clear hl HAT;have HAT := Lib.hid hat; clear hat;obtain ⟨a0, a1, a2, a3, af⟩ := qam a (HAT.out.one);obtain ⟨b0, b1, b2, b3, bf⟩ := qam b (HAT.out.two)
 cases qk with
 | true =>
  have hr := HR2.out.trans (if_pos rfl);have HR3 := Lib.hid hr; clear hr HR2 IVA IVB;have hkl : a.kids.length = b.kids.length := by
   have h := HQK.out.symm;unfold qa1 at h;rw [Bool.and_eq_true] at h;exact of_decide_eq_true h.2
  have hKA := RepP.kidsP HRA.out;have hKB := RepP.kidsP HRB.out;have hka1 := qb6 a;have HKL := Lib.hid hkl; clear hkl;have HKA := Lib.hid hKA; clear hKA;have HKB := Lib.hid hKB; clear hKB;go_wp2_with fail
  clear a0 a1 a2 a3 af b0 b1 b2 b3 bf;go_loopw [5, 40] (fun v i wr => ∃ (k c0 : Nat) (A0 : Option Addr) (it2 : List IB), k ≤ a.kids.length ∧ i = .int .i64 k ∧ v = .slice A0 it2.length c0 ∧ Hid (it2.length = k) ∧ Hid (RowG 53 wr w6.heap.size (qb1 xb (.slice BA its.length Bc) w) (.slice A0 it2.length c0) it2) ∧ Hid (it2.map IB.bd = (a.kids.zip b.kids).take k) ∧ Hid (AtU xb w.heap.size bx by' (.cells #[.slice PA' ps.length Pc', .slice BA its.length Bc] 85 (0, 0)) (boxT a A c) (boxT b A' c') w wr) ∧ Hid (w6.heap.size ≤ wr.heap.size)) (fun _ i _ => a.kids.length - (intOf i).toNat)
  case atStart => exact ⟨0, 0, none, [], Nat.zero_le _, rfl, rfl, rfl, RowG.nil _ _ _ _, by show _ = _; simp, HAT.out, Nat.le_refl _⟩
  case round =>
   obtain ⟨k, c0, A0, it2, hk, rfl, rfl, HIL, HROW, HITS, HATR, HSR⟩ := hrel;have i1 : (0 : Int) ≤ (k : Int) := Int.natCast_nonneg _;have hw6 := HAT.out.size;have hsr := HSR.out;have hkl := HKL.out;by_cases hlt : k < a.kids.length
   ·have i2 : (k : Int) < (a.kids.length : Int) := by omega
    have i3 : (k : Int) < (b.kids.length : Int) := by omega
    rcases HKA.out.2.2 with h | ⟨kb, o1, rfl, hkb, hla⟩
    ·rw [h] at hlt; simp at hlt
    rcases HKB.out.2.2 with h | ⟨kb', o2, rfl, hkb', hlb⟩
    ·rw [hkl, h] at hlt; simp at hlt
    obtain ⟨X, cx, k0, k1, k2, k3, hrx⟩ := hla.get k hlt;obtain ⟨Y, cy, l0, l1, l2, l3, hry⟩ := hlb.get k (by omega);have hzip : it2.map IB.bd ++ [(a.kids[k], b.kids[k])] = (a.kids.zip b.kids).take (k + 1) := by
     rw [HITS.out, List.take_succ_eq_append_getElem (by rw [List.length_zip]; omega), List.getElem_zip]
    obtain ⟨x, hx⟩ : ∃ x, x = a.kids[k] := ⟨_, rfl⟩;obtain ⟨y, hy⟩ : ∃ y, y = b.kids[k] := ⟨_, rfl⟩;rw [← hx] at k0 k1 k2 k3 hrx hzip;rw [← hy] at l0 l1 l2 l3 hry hzip;clear hx hy hla hlb;have hatr : AtU xb w.heap.size bx by' (.cells #[.slice PA' ps.length Pc', .slice BA its.length Bc] 85 (0, 0)) (boxT a (some ⟨kb, o1, none⟩) c) (boxT b (some ⟨kb', o2, none⟩) c') w wr.drew := ⟨HATR.out.bel.drew, HATR.out.old, HATR.out.st, HATR.out.one, HATR.out.two, HATR.out.size⟩
    have hrow : RowG 53 wr.drew w6.heap.size (qb1 xb (.slice BA its.length Bc) w) (.slice A0 it2.length c0) it2 := HROW.out.below (Below.refl _ _).drew;have hsd : wr.drew.heap.size = wr.heap.size := rfl;have hown : ∀ q, q < w6.heap.size → (Value.slice A0 it2.length c0).ownBlock ≠ some q := fun q hq e => by have := (HROW.out.lt q e).1; omega
    have hcw : ∀ p : Addr, p.block < w.heap.size → p.block ≠ xb → wr.drew.cell? p = w.cell? p := fun p h1 h2 => World.cell?_of_block (hatr.old _ h1 h2);have hbxl6 : bx < w6.heap.size := (Array.getElem?_eq_some_iff.1 HAT.out.one).1;have hbyl6 : by' < w6.heap.size := (Array.getElem?_eq_some_iff.1 HAT.out.two).1
    obtain ⟨-, -, -, a3, -⟩ := qam a (hatr.one);obtain ⟨-, -, -, b3, -⟩ := qam b (hatr.two);have hkbl := hkb.2.1;have hkbl' := hkb'.2.1
    replace k0 := (hcw ⟨kb, o1 + k * 4, none⟩ hkb.2.1 hkb.1).trans k0
    replace k1 := (hcw ⟨kb, o1 + k * 4 + 1, none⟩ hkb.2.1 hkb.1).trans k1
    replace k2 := (hcw ⟨kb, o1 + k * 4 + 2, none⟩ hkb.2.1 hkb.1).trans k2
    replace k3 := (hcw ⟨kb, o1 + k * 4 + 3, none⟩ hkb.2.1 hkb.1).trans k3
    replace l0 := (hcw ⟨kb', o2 + k * 4, none⟩ hkb'.2.1 hkb'.1).trans l0
    replace l1 := (hcw ⟨kb', o2 + k * 4 + 1, none⟩ hkb'.2.1 hkb'.1).trans l1
    replace l2 := (hcw ⟨kb', o2 + k * 4 + 2, none⟩ hkb'.2.1 hkb'.1).trans l2
    replace l3 := (hcw ⟨kb', o2 + k * 4 + 3, none⟩ hkb'.2.1 hkb'.1).trans l3
    have hlen : it2.length + 1 ≤ 100000000 := by rw [HIL.out]; omega
    have hfr : ∀ (t : Tm) A c, RepP w (qb1 xb (.slice BA its.length Bc) w) t A c → RepP wr.drew (fun b => qb1 xb (.slice BA its.length Bc) w b ∧ b < wr.drew.heap.size ∧ (Value.slice A0 it2.length c0).ownBlock ≠ some b) t A c := fun t A c h =>
     RepP.mono (fun b h => ⟨h, by have := h.2.1; omega, hown b (by have := h.2.1; omega)⟩) (fun p hp => hcw p hp.2.1 hp.1) _ _ _ h
    obtain ⟨g9, c9, w9, hap, hrow9, hbl9, hsm9, hsz9, hown9⟩ := hrow.more1 qf8 (by omega) ((x, X, cx), (y, Y, cy)) (hfr _ _ _ hrx) (hfr _ _ _ hry) hlen;have hat9 : AtU xb w.heap.size bx by' (.cells #[.slice PA' ps.length Pc', .slice BA its.length Bc] 85 (0, 0)) (boxT a (some ⟨kb, o1, none⟩) c) (boxT b (some ⟨kb', o2, none⟩) c') w w9 :=
     ⟨hbl9 _ _ hatr.bel (by omega), fun q hq hqx => (hsm9 q (by omega) (hown q (by omega))).trans (hatr.old q hq hqx), (hsm9 _ (by omega) (hown _ (by omega))).trans hatr.st, (hsm9 _ (by omega) (hown _ (by omega))).trans hatr.one, (hsm9 _ (by omega) (hown _ (by omega))).trans hatr.two, by omega⟩
    have HAT9 := Lib.hid hat9; clear hat9 hatr;have HROW9 := Lib.hid hrow9; clear hrow9 hrow;have HZIP := Lib.hid hzip; clear hzip;have HSM := Lib.hid hsm9; clear hsm9;have hz6 : w6.heap.size ≤ wr.drew.heap.size := by omega
    clear hkl;clear hfr hrx hry hcw hbl9 hown9 hlen hsd;go_wp2_with fail
    refine qbt (fun Y => ∀ p : Addr, p.block < wr.drew.heap.size → (Value.slice A0 it2.length c0).ownBlock ≠ some p.block → Y.cell? p = wr.drew.cell? p) 14
     (.held 0 (.held 1 (.held 2 (.held 3 (.held 4 (.held 5 (.held 6 (.held 7 (.held 8 (.held 9 (.held 10 (.held 11 (.op 12 (.op 13 (.op 14 .nil))))))))))))))) mixed (by kernel_rfl) ?_
    generalize wr.drew = Z at *;refine qaj (v := .slice A0 it2.length c0) rfl rfl (fun _ _ _ h => h) (fun _ _ _ => rfl) (fun Y hY => by
      (try simp only [Act.put]); go_simp) ?_
    refine qaj (v := .pointer (some ⟨bx, 3, none⟩)) rfl rfl (fun _ _ _ h => h) (fun _ _ _ => rfl) (fun Y hY => by
      (try simp only [Act.put]); go_simp) ?_
    refine qaj (v := (.slice (some ⟨kb, o1, none⟩) a.kids.length c)) rfl rfl (fun _ _ _ h => h) (fun _ _ _ => rfl) (fun Y hY => by
      have z0 := (hY ⟨bx, 3, none⟩ (by show bx < _; omega) (hown bx (by omega))).trans a3
      (try simp only [Act.put]); go_simp) ?_
    refine qaj (v := .int .i64 k) rfl rfl (fun _ _ _ h => h) (fun _ _ _ => rfl) (fun Y hY => by
      (try simp only [Act.put]); go_simp) ?_
    refine qaj (v := .pointer (some ⟨kb, o1 + k * 4, none⟩)) rfl rfl (fun _ _ _ h => h) (fun _ _ _ => rfl) (fun Y hY => by
      (try simp only [Act.put]); go_simp) ?_
    refine qaj (v := .agg #[.int .i64 x.kind, .string x.name, .int .i64 x.sort, .slice X x.kids.length cx]) rfl rfl (fun _ _ _ h => h) (fun _ _ _ => rfl) (fun Y hY => by
      have z0 := (hY ⟨kb, o1 + k * 4, none⟩ (by show kb < _; omega) (hown kb (by omega))).trans k0;have z1 := (hY ⟨kb, o1 + k * 4 + 1, none⟩ (by show kb < _; omega) (hown kb (by omega))).trans k1;have z2 := (hY ⟨kb, o1 + k * 4 + 2, none⟩ (by show kb < _; omega) (hown kb (by omega))).trans k2;have z3 := (hY ⟨kb, o1 + k * 4 + 3, none⟩ (by show kb < _; omega) (hown kb (by omega))).trans k3
      (try simp only [Act.put]); go_simp) ?_
    refine qaj (v := (.pointer (some ⟨by', 3, none⟩))) rfl rfl (fun _ _ _ h => h) (fun _ _ _ => rfl) (fun Y hY => by
      (try simp only [Act.put]); go_simp) ?_
    refine qaj (v := (.slice (some ⟨kb', o2, none⟩) b.kids.length c')) rfl rfl (fun _ _ _ h => h) (fun _ _ _ => rfl) (fun Y hY => by
      have z0 := (hY ⟨by', 3, none⟩ (by show by' < _; omega) (hown by' (by omega))).trans b3
      (try simp only [Act.put]); go_simp) ?_
    refine qaj (v := .int .i64 k) rfl rfl (fun _ _ _ h => h) (fun _ _ _ => rfl) (fun Y hY => by
      (try simp only [Act.put]); go_simp) ?_
    refine qaj (v := (.pointer (some ⟨kb', o2 + k * 4, none⟩))) rfl rfl (fun _ _ _ h => h) (fun _ _ _ => rfl) (fun Y hY => by
      (try simp only [Act.put]); go_simp) ?_
    refine qaj (v := .agg #[.int .i64 y.kind, .string y.name, .int .i64 y.sort, .slice Y y.kids.length cy]) rfl rfl (fun _ _ _ h => h) (fun _ _ _ => rfl) (fun Y hY => by
      have z0 := (hY ⟨kb', o2 + k * 4, none⟩ (by show kb' < _; omega) (hown kb' (by omega))).trans l0;have z1 := (hY ⟨kb', o2 + k * 4 + 1, none⟩ (by show kb' < _; omega) (hown kb' (by omega))).trans l1;have z2 := (hY ⟨kb', o2 + k * 4 + 2, none⟩ (by show kb' < _; omega) (hown kb' (by omega))).trans l2;have z3 := (hY ⟨kb', o2 + k * 4 + 3, none⟩ (by show kb' < _; omega) (hown kb' (by omega))).trans l3
      (try simp only [Act.put]); go_simp) ?_
    refine qaj (v := .agg #[.int .i64 x.kind, .string x.name, .int .i64 x.sort, .slice X x.kids.length cx, .int .i64 y.kind, .string y.name, .int .i64 y.sort, .slice Y y.kids.length cy]) rfl rfl (fun _ _ _ h => h) (fun _ _ _ => rfl) (fun Y hY => by
      (try simp only [Act.put]); go_simp) ?_
    clear k0 k1 k2 k3 l0 l1 l2 l3 a3 b3;simp only [Act.put, List.setIfInBounds_toArray];refine mix_op rfl rfl (fun K hK => ?_);go_wp2_with fail
    refine ⟨fun _ p hp _ => (qaf (Nat.le_refl _) _).cell hp, ?_⟩;refine mix_op rfl rfl (fun K hK => ?_);refine qag (by rfl) (.tmp 43) (.tmp 55) (by rfl) (by rfl) (by rfl) hap ?_;refine hK _ _ ⟨fun _ p hp hp2 => World.cell?_of_block (HSM.out p.block hp hp2), ?_⟩;clear hK K hap;simp only [Act.put, List.setIfInBounds_toArray];refine mix_op rfl rfl (fun K hK => ?_);go_wp2_with fail
    refine ⟨fun h => absurd h (by decide), ?_⟩;refine qdx ?_;go_wp2_with fail
    go_roundw
    case rel => exact ⟨k + 1, c9, some ⟨g9, 0, none⟩, it2 ++ [((x, X, cx), (y, Y, cy))], by omega, by go_num, by rw [List.length_append]; rfl, by show _ = _; rw [List.length_append, HIL.out]; rfl, by rw [List.length_append]; exact HROW9.out, by show _ = _; rw [List.map_append]; exact HZIP.out, HAT9.out, by show _ ≤ _; omega⟩
    case measure => simp [intOf]; omega
   ·obtain rfl : k = a.kids.length := by omega
    have hrow := HROW.out;have hits : it2.map IB.bd = a.kids.zip b.kids := by
     rw [HITS.out, List.take_of_length_le (by rw [List.length_zip]; omega)]
    obtain ⟨o', hPA, hcl⟩ : ∃ o', PA' = some ⟨pb, o', none⟩ ∧ (o' = off + 8 ∨ ps = []) := by
     rcases HP3.out with h | ⟨h1, h2⟩
     ·exact ⟨_, h, .inl rfl⟩
     ·exact ⟨_, h2, .inr h1⟩
    subst hPA;obtain ⟨it3, hm3, hc3, hr3⟩ := qao.items HLR.out;have hcw : ∀ p : Addr, p.block < w.heap.size → p.block ≠ xb → wr.cell? p = w.cell? p := fun p h1 h2 => World.cell?_of_block (HATR.out.old _ h1 h2);have hl3 : ps.length = it3.length := by rw [← hm3, List.length_map]
    have hc4 : ∀ j u, (bCells it3)[j]? = some u → wr.cell? ⟨pb, o' + j, none⟩ = some u := fun j u hj => by
     rcases hcl with h | h
     ·rw [h];exact (hcw ⟨pb, off + 8 + j, none⟩ HPB.out.2.1 HPB.out.1).trans (hc3 j u hj)
     ·rw [h] at hl3;rw [List.eq_nil_of_length_eq_zero (show it3.length = 0 by rw [← hl3]; rfl)] at hj;simp [bCells, bits, itCells] at hj
    have hil := HIL.out;obtain ⟨A9, c9, w9, hap, hrow9, hg9⟩ := hrow.behind qf8 (fun b h => by have := h.2.1; omega) hsr pb o' Pc' ps.length it3 hl3 hc4
     (fun x hx => ⟨RepP.mono (fun _ h => h) (fun p hp => hcw p hp.2.1 hp.1) _ _ _ (hr3 x hx).1, RepP.mono (fun _ h => h) (fun p hp => hcw p hp.2.1 hp.1) _ _ _ (hr3 x hx).2⟩) (by omega)
    have hown : ∀ q, q < w6.heap.size → (Value.slice A0 it2.length c0).ownBlock ≠ some q := fun q hq e => by have := (hrow.lt q e).1; omega
    have hxc9 := (hg9.block xb (by omega) (fun e => hown xb (by omega) e.symm)).trans HATR.out.st;have hold9 : ∀ q, q < w.heap.size → q ≠ xb → w9.heap[q]? = w.heap[q]? := fun q hq hx => (hg9.block q (by omega) (fun e => hown q (by omega) e.symm)).trans (HATR.out.old q hq hx);have hbe9 : Below xb w w9 := HATR.out.bel.grown hg9 (by omega) (fun j e => by have := (hrow.lt j e).1; omega);have hs9 := hg9.size;have hin : (it2 ++ it3).map IB.bd = a.kids.zip b.kids ++ ps := by rw [List.map_append, hits, hm3]
    obtain ⟨x0, x1, xf⟩ := qci HATR.out.st;obtain ⟨y0, y1, yf⟩ := qci hxc9;have HXC9 := Lib.hid hxc9; clear hxc9;have HROW9 := Lib.hid hrow9; clear hrow9;have HOLD9 := Lib.hid hold9; clear hold9;have HBE9 := Lib.hid hbe9; clear hbe9;have HIN := Lib.hid hin; clear hin;have HL3 := Lib.hid hl3; clear hl3;clear hg9 hrow hits hc3 hr3 hcw hc4 hcl hm3 hkl;go_wp2_with (at_builtin; refine qak rfl _ _ rfl rfl rfl hap ?_)
    go_ret
    have hr := HR3.out;have hlen9 : (a.kids.zip b.kids ++ ps).length = it2.length + ps.length := by rw [← HIN.out, List.length_map, List.length_append, ← HL3.out]
    obtain ⟨A1, c1, he, hB⟩ := HROW9.out.toB (P := fun b => b ≠ xb ∧ b < w9.heap.size ∧ (Value.slice BA its.length Bc).ownBlock ≠ some b) (fun b h h2 _ => ⟨h.1, h2, h.2.2⟩)
     (fun q e => ⟨by have := HROW9.out.lt q e; omega, (HROW9.out.lt q e).2, fun e2 => by have := HROW9.out.lt q e; have := HS.out.row.lt q e2; omega⟩)
    injection he with he1 _ he3;subst he1 he3;rw [HIN.out] at hB;obtain ⟨W9, hW9⟩ : ∃ W9, W9 = w9.setCell ⟨xb, 0, none⟩ (.slice A9 (a.kids.length + ps.length) c9) := ⟨_, rfl⟩;have hz9 : W9.heap.size = w9.heap.size := by rw [hW9]; simp [World.setCell]
    have hn9 : ∀ q, q ≠ xb → W9.heap[q]? = w9.heap[q]? := fun q hq => by rw [hW9]; exact Below.heap_setCell _ _ _ _ hq
    have hc9 : W9.heap[xb]? = some (.cells #[.slice A9 (a.kids.length + ps.length) c9, .slice BA its.length Bc] 85 (0, 0)) := by rw [hW9]; exact qjj HXC9.out
    have hbe : Below xb w W9 := by rw [hW9]; exact HBE9.out.setCell (p := ⟨xb, 0, none⟩) (Nat.le_refl _) _
    rw [hil] at hlen9;have hST : StU xb r.2.1 r.2.2 W9 := by
     rw [hr];refine ⟨A9, c9, BA, Bc, its, by rw [hlen9]; exact hc9, RepB.mono (fun _ ⟨h1, h2, h3⟩ => ⟨h1, by omega, h3⟩) (fun _ hp => World.cell?_of_block (hn9 _ hp.1)) hB, ?_, HS.out.is⟩;refine HS.out.row.keep (by omega) (fun q hq hor => ?_);have hne : q ≠ xb := hor.elim id (fun h => by have := HS.out.row.lt q h; omega);exact (hn9 q hne).trans (HOLD9.out q hq hne)
    rw [← hW9];exact ⟨by rw [hr]; rfl, fun _ => hST, hbe⟩
 | false =>
 have hr := HR2.out.trans (if_neg (by simp));have HR3 : Hid (r = qkf (qav a b) ps bs) := Lib.hid hr; clear hr HR2;have hpl9 : ps.length ≤ 1000000 := by omega
 have IA := Lib.hid (IVA.out w6);go_wp2_with fail
 refine IA.out.mono ?_; clear IA a0 a1 a2 a3 af b0 b1 b2 b3 bf;rintro e w7 ⟨rfl, hl⟩;have hat := HAT.out.go hl.below;clear hl HAT;have HAT := Lib.hid hat; clear hat;obtain ⟨a0, a1, a2, a3, af⟩ := qam a (HAT.out.one);obtain ⟨b0, b1, b2, b3, bf⟩ := qam b (HAT.out.two);have IB1 := Lib.hid (IVB.out w7)
 cases qa with
 | true =>
  have hka : a.kind = 1 := by have := HQA.out; simpa using this.symm
  go_wp2_with fail
  refine IB1.out.mono ?_; clear IB1 a0 a1 a2 a3 af b0 b1 b2 b3 bf;rintro e w8 ⟨rfl, hl⟩;have hat := HAT.out.go hl.below;clear hl HAT;have HAT := Lib.hid hat; clear hat;obtain ⟨a0, a1, a2, a3, af⟩ := qam a (HAT.out.one);obtain ⟨b0, b1, b2, b3, bf⟩ := qam b (HAT.out.two)
  cases qb with
  | true =>
   have hkb : b.kind = 1 := by have := HQB.out; simpa using this.symm
   have TW := two_any xb a b A c A' c' ps bs PA' Pc' BA Bc its w8 (GOOD.out _ _ _ HAT.out).1 HVA.out hka HVB.out hkb HPV.out HBV.out hpl9 hbl (GOOD.out _ _ _ HAT.out).2.1 (GOOD.out _ _ _ HAT.out).2.2;simp only [Tm.val] at TW;have TW := Lib.hid TW;clear hka hkb;go_wp2_with fail
   refine TW.out.mono ?_; clear TW a0 a1 a2 a3 af b0 b1 b2 b3 bf;intro e w9 ht;have hst := qkc ht HAT.out.bel (by have := HAT.out.size; omega);rw [← HR3.out] at hst;obtain ⟨rfl, hst⟩ := hst;clear ht;have HST := Lib.hid hst; clear hst;go_wp2_with fail
   go_ret
   exact ⟨rfl, HST.out⟩
  | false =>
   have hkb : ¬ b.kind = 1 := by have := HQB.out; intro h; rw [h] at this; exact absurd this (by decide)
   have hch : qav a b = oneU a b := by unfold qav; rw [if_pos hka, if_neg hkb]
   have hr := HR3.out;rw [hch] at hr;have HR4 := Lib.hid hr; clear hr HR3 hch hkb;have HKA := Lib.hid hka; clear hka;have IB1 := Lib.hid (IVB.out w8);go_wp2_with fail
   refine IB1.out.mono ?_; clear IB1 a0 a1 a2 a3 af b0 b1 b2 b3 bf;rintro e w9 ⟨rfl, hl⟩;have hat := HAT.out.go hl.below;clear hl HAT;have HAT := Lib.hid hat; clear hat;obtain ⟨a0, a1, a2, a3, af⟩ := qam a (HAT.out.one);obtain ⟨b0, b1, b2, b3, bf⟩ := qam b (HAT.out.two);have IB1 := Lib.hid (IVA.out w9);go_wp2_with fail
   refine IB1.out.mono ?_; clear IB1 a0 a1 a2 a3 af b0 b1 b2 b3 bf;rintro e w10 ⟨rfl, hl⟩;have hat := HAT.out.go hl.below;clear hl HAT;have HAT := Lib.hid hat; clear hat;obtain ⟨a0, a1, a2, a3, af⟩ := qam a (HAT.out.one);obtain ⟨b0, b1, b2, b3, bf⟩ := qam b (HAT.out.two);obtain ⟨qf, hqf⟩ : ∃ q, q = fits a b := ⟨_, rfl⟩;have CT := qin a b A A' c c' w10 (by omega) (by omega) (qb1.repT (GOOD.out _ _ _ HAT.out).2.1) (qb1.repT (GOOD.out _ _ _ HAT.out).2.2);rw [← hqf] at CT;simp only [Tm.val] at CT;have CT := Lib.hid CT;have HQF := Lib.hid hqf; clear hqf;go_wp2_with fail
   refine CT.out.mono ?_; clear CT a0 a1 a2 a3 af b0 b1 b2 b3 bf;rintro e v1 ⟨rfl, hl⟩;have hat := HAT.out.go hl.below;clear hl HAT;have HAT := Lib.hid hat; clear hat;obtain ⟨a0, a1, a2, a3, af⟩ := qam a (HAT.out.one);obtain ⟨b0, b1, b2, b3, bf⟩ := qam b (HAT.out.two)
   cases qf with
   | false =>
    have hr := HR4.out.trans (qhe HQF.out.symm);subst hr;clear HR4 HQF;go_wp2_with fail
    go_ret
    exact ⟨rfl, fun h => absurd h (show ¬ (11 : Int) = 0 by decide), HAT.out.bel⟩
   | true =>
   obtain ⟨qo, hqo⟩ : ∃ q, q = occT a b := ⟨_, rfl⟩;have CT := qgd 1000000 a b A A' c c' v1 (by omega) (by omega) (Nat.le_refl _) (qb1.repT (GOOD.out _ _ _ HAT.out).2.1) (qb1.repT (GOOD.out _ _ _ HAT.out).2.2);rw [← hqo] at CT;simp only [Tm.val] at CT;have CT := Lib.hid CT;have HQO := Lib.hid hqo; clear hqo;go_wp2_with fail
   refine CT.out.mono ?_; clear CT a0 a1 a2 a3 af b0 b1 b2 b3 bf;rintro e v2 ⟨rfl, hl⟩;have hat := HAT.out.go hl;clear hl HAT;have HAT := Lib.hid hat; clear hat;obtain ⟨a0, a1, a2, a3, af⟩ := qam a (HAT.out.one);obtain ⟨b0, b1, b2, b3, bf⟩ := qam b (HAT.out.two)
   cases qo with
   | true =>
    have hr := HR4.out.trans (qlb HQF.out.symm HQO.out.symm);subst hr;clear HR4 HQF HQO;go_wp2_with fail
    go_ret
    exact ⟨rfl, fun h => absurd h (show ¬ (12 : Int) = 0 by decide), HAT.out.bel⟩
   | false =>
   have hr := HR4.out.trans (qja HQF.out.symm HQO.out.symm);have CT := qis xb a b A c A' c' ps bs PA' Pc' BA Bc its v2 (GOOD.out _ _ _ HAT.out).1 HVA.out HKA.out HVB.out HPV.out HBV.out hpl9 hbl (GOOD.out _ _ _ HAT.out).2.1 (GOOD.out _ _ _ HAT.out).2.2;have hre : (if qc8 a b ps bs = true then (0 : Int) else 3) = r.1 := by rw [hr]; rfl
   rw [hre] at CT;clear hre;simp only [Tm.val] at CT;have CT := Lib.hid CT;have HR5 := Lib.hid hr; clear hr HR4 HQF HQO;go_wp2_with fail
   refine CT.out.mono ?_; clear CT a0 a1 a2 a3 af b0 b1 b2 b3 bf;rintro e v3 ⟨rfl, hst, hb3⟩;have HST := Lib.hid hst; clear hst;have HB9 := Lib.hid hb3; clear hb3;go_wp2_with fail
   go_ret
   refine ⟨rfl, fun _ => ?_, HAT.out.bel.trans HB9.out⟩;rw [HR5.out];exact HST.out
 | false =>
  have hka : ¬ a.kind = 1 := by have := HQA.out; intro h; rw [h] at this; exact absurd this (by decide)
  go_wp2_with fail
  refine IB1.out.mono ?_; clear IB1 a0 a1 a2 a3 af b0 b1 b2 b3 bf;rintro e w8 ⟨rfl, hl⟩;have hat := HAT.out.go hl.below;clear hl HAT;have HAT := Lib.hid hat; clear hat;obtain ⟨a0, a1, a2, a3, af⟩ := qam a (HAT.out.one);obtain ⟨b0, b1, b2, b3, bf⟩ := qam b (HAT.out.two)
  cases qb with
  | true =>
   have hkb : b.kind = 1 := by have := HQB.out; simpa using this.symm
   have hch : qav a b = oneU b a := by unfold qav; rw [if_neg hka, if_pos hkb]
   have hr := HR3.out;rw [hch] at hr;have HR4 := Lib.hid hr; clear hr HR3 hch hka;have HKB := Lib.hid hkb; clear hkb;have hyx : by' ≠ bx := fun h => hxy h.symm
   have hat := HAT.out.swap hbxl hy1 hxy hxb;clear HAT;have HAT := Lib.hid hat; clear hat;obtain ⟨qf, hqf⟩ : ∃ q, q = fits b a := ⟨_, rfl⟩;have CT := qin b a A' A c' c _ (by omega) (by omega) (qb1.repT (GOOD.out _ _ _ HAT.out).2.2) (qb1.repT (GOOD.out _ _ _ HAT.out).2.1);rw [← hqf] at CT;simp only [Tm.val] at CT;have CT := Lib.hid CT;have HQF := Lib.hid hqf; clear hqf;go_wp2_with fail
   refine CT.out.mono ?_; clear CT a0 a1 a2 a3 af b0 b1 b2 b3 bf;rintro e v1 ⟨rfl, hl⟩;have hat := HAT.out.go hl.below;clear hl HAT;have HAT := Lib.hid hat; clear hat;obtain ⟨a0, a1, a2, a3, af⟩ := qam b (HAT.out.one);obtain ⟨b0, b1, b2, b3, bf⟩ := qam a (HAT.out.two)
   cases qf with
   | false =>
    have hr := HR4.out.trans (qhe HQF.out.symm);subst hr;clear HR4 HQF;go_wp2_with fail
    go_ret
    exact ⟨rfl, fun h => absurd h (show ¬ (11 : Int) = 0 by decide), HAT.out.bel⟩
   | true =>
   obtain ⟨qo, hqo⟩ : ∃ q, q = occT b a := ⟨_, rfl⟩;have CT := qgd 1000000 b a A' A c' c v1 (by omega) (by omega) (Nat.le_refl _) (qb1.repT (GOOD.out _ _ _ HAT.out).2.2) (qb1.repT (GOOD.out _ _ _ HAT.out).2.1);rw [← hqo] at CT;simp only [Tm.val] at CT;have CT := Lib.hid CT;have HQO := Lib.hid hqo; clear hqo;go_wp2_with fail
   refine CT.out.mono ?_; clear CT a0 a1 a2 a3 af b0 b1 b2 b3 bf;rintro e v2 ⟨rfl, hl⟩;have hat := HAT.out.go hl;clear hl HAT;have HAT := Lib.hid hat; clear hat;obtain ⟨a0, a1, a2, a3, af⟩ := qam b (HAT.out.one);obtain ⟨b0, b1, b2, b3, bf⟩ := qam a (HAT.out.two)
   cases qo with
   | true =>
    have hr := HR4.out.trans (qlb HQF.out.symm HQO.out.symm);subst hr;clear HR4 HQF HQO;go_wp2_with fail
    go_ret
    exact ⟨rfl, fun h => absurd h (show ¬ (12 : Int) = 0 by decide), HAT.out.bel⟩
   | false =>
   have hr := HR4.out.trans (qja HQF.out.symm HQO.out.symm);have CT := qis xb b a A' c' A c ps bs PA' Pc' BA Bc its v2 (GOOD.out _ _ _ HAT.out).1 HVB.out HKB.out HVA.out HPV.out HBV.out hpl9 hbl (GOOD.out _ _ _ HAT.out).2.2 (GOOD.out _ _ _ HAT.out).2.1;have hre : (if qc8 b a ps bs = true then (0 : Int) else 3) = r.1 := by rw [hr]; rfl
   rw [hre] at CT;clear hre;simp only [Tm.val] at CT;have CT := Lib.hid CT;have HR5 := Lib.hid hr; clear hr HR4 HQF HQO;go_wp2_with fail
   refine CT.out.mono ?_; clear CT a0 a1 a2 a3 af b0 b1 b2 b3 bf;rintro e v3 ⟨rfl, hst, hb3⟩;have HST := Lib.hid hst; clear hst;have HB9 := Lib.hid hb3; clear hb3;go_wp2_with fail
   go_ret
   refine ⟨rfl, fun _ => ?_, HAT.out.bel.trans HB9.out⟩;rw [HR5.out];exact HST.out
  | false =>
   have hkb : ¬ b.kind = 1 := by have := HQB.out; intro h; rw [h] at this; exact absurd this (by decide)
   have hch : qkf (qav a b) ps bs = (11, ps, bs) := by unfold qav; rw [if_neg hka, if_neg hkb]; rfl
   have hr := HR3.out;rw [hch] at hr;clear HR3 hch hka hkb;subst hr;have IB1 := Lib.hid (IVA.out w8);go_wp2_with fail
   refine IB1.out.mono ?_; clear IB1 a0 a1 a2 a3 af b0 b1 b2 b3 bf;rintro e w9 ⟨rfl, hl⟩;have hat := HAT.out.go hl.below;clear hl HAT;have HAT := Lib.hid hat; clear hat;obtain ⟨a0, a1, a2, a3, af⟩ := qam a (HAT.out.one);obtain ⟨b0, b1, b2, b3, bf⟩ := qam b (HAT.out.two);go_wp2_with fail
   go_ret
   exact ⟨rfl, fun h => absurd h (show ¬ (11 : Int) = 0 by decide), HAT.out.bel⟩
end Go.Proofs.YtpjmdilpldaapaaGreatDoor
