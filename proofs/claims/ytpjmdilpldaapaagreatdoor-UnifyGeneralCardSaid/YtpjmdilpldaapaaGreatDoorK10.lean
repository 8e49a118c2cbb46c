/- Ustep (joined by shake.py). -/
import Derived.Test.YtpjmdilpldaapaaGreatDoorK9
set_option maxRecDepth 100000
namespace Go.Proofs.YtpjmdilpldaapaaGreatDoor
open Go.RowKit Go.Sort
theorem StV.keep {xb : Nat} {ps bs : List Bd} {PA : Option Addr} {Pc : Nat} {BA : Option Addr} {Bc : Nat} {its : List IB} {w w' : World} (h : StV xb ps bs PA Pc BA Bc its w) (hb : Below w.heap.size w w') : StV xb ps bs PA Pc BA Bc its w' :=
 ⟨(hb.block xb (Array.getElem?_eq_some_iff.1 h.cell).1).trans h.cell, RepB.mono (fun _ ⟨h1, h2, h3⟩ => ⟨h1, Nat.lt_of_lt_of_le h2 hb.size, h3⟩) (fun _ hp => hb.cell hp.2.1) h.pairs, h.row.below hb, h.is⟩
def qb1 (xb : Nat) (v : Value) (w : World) (b : Nat) : Prop := b ≠ xb ∧ b < w.heap.size ∧ v.ownBlock ≠ some b
theorem qb1.rep {xb : Nat} {v : Value} {w w' : World} {t : Tm} {A : Option Addr} {c : Nat} (h : RepP w (qb1 xb v w) t A c) (hb : Below w.heap.size w w') : RepP w' (qb1 xb v w') t A c :=
 RepP.mono (fun _ ⟨h1, h2, h3⟩ => ⟨h1, Nat.lt_of_lt_of_le h2 hb.size, h3⟩) (fun _ hp => hb.cell hp.2.1) _ _ _ h
def qbd (t u : Tm) : Int := if t.valid ≠ 0 then t.valid else u.valid
set_option maxHeartbeats 1000000 in
theorem qff (t u : Tm) (A A' : Option Addr) (c c' : Nat) (w : World) (ht : t.size ≤ 1000000) (hu : u.size ≤ 1000000) (hrt : RepT w w.heap.size t A c) (hru : RepT w w.heap.size u A' c') :
  Calls Tryz.prog 37 #[t.val A c, u.val A' c'] w fun e w' => e = .returned (.int .i64 (qbd t u)) ∧ Lay w.heap.size w w' := by
 obtain ⟨V, hV⟩ : ∃ V, V = (w.alloc (boxT t A c)).alloc (boxT u A' c') := ⟨_, rfl⟩;have h2 : Two w t u A A' c c' V := by rw [hV]; exact Two.new _ _ _ _ _ _ _
 have V1 := qds t A c V ht (hrt.go h2.lay.below h2.lay.size);have V2 : Hid (∀ Z, Lay V.heap.size V Z → Calls Tryz.prog 44 #[u.val A' c'] Z fun e w' => e = .returned (.int .i64 u.valid) ∧ Lay Z.heap.size Z w') := Lib.hid fun Z h => qds u A' c' Z hu (hru.go (qae h2.lay.below h.below h2.lay.size) (Nat.le_trans h2.lay.size h.size));obtain ⟨r, hr⟩ : ∃ r, r = qbd t u := ⟨_, rfl⟩;rw [← hr];unfold qbd at hr;obtain ⟨vt, hvt⟩ : ∃ x, x = t.valid := ⟨_, rfl⟩;obtain ⟨vu, hvu⟩ : ∃ x, x = u.valid := ⟨_, rfl⟩;rw [← hvt, ← hvu] at hr;rw [← hvt] at V1;rw [← hvu] at V2;clear hvt hvu;have HR := Lib.hid hr; clear hr;have H2 := Lib.hid h2;obtain ⟨a0, a1, a2, a3, -⟩ := qad h2.one;clear h2;simp only [boxT] at hV;have HV := Lib.hid hV; clear hV;have V1 := Lib.hid V1;simp only [Tm.val] at V1 V2 ⊢
 go_enter Tryz.func37, Tryz.ntmps37
 go_wp2_with fail
 rw [← HV.out];go_wp2_with fail
 refine V1.out.mono ?_; clear V1 a0 a1 a2 a3;rintro e w1 ⟨rfl, hl1⟩;rcases eq_facts vt 0 with ⟨h0, e0, n0⟩ | ⟨h0, e0, n0⟩
 ·have hr := HR.out.trans (if_neg (by simpa using h0));subst h0;subst hr;obtain ⟨b0, b1, b2, b3, -⟩ := qad (H2.out.go hl1).two;have V2 := Lib.hid (V2.out w1 hl1);have HL := Lib.hid (H2.out.go hl1).lay; clear hl1 HR;go_wp2_with fail
  refine V2.out.mono ?_; clear V2;rintro e w2 ⟨rfl, hl2⟩;go_wp2_with fail
  go_ret
  exact ⟨rfl, HL.out.trans (hl2.mono HL.out.size)⟩
 ·have hr := HR.out.trans (if_pos h0);subst hr;have HL := Lib.hid (H2.out.go hl1).lay; clear hl1 HR h0;go_wp2_with fail
  go_ret
  exact ⟨rfl, HL.out⟩
def rightE (v t : Tm) (ps bs : List Bd) : Int := if qc8 v t ps bs = true then 0 else 3
def BoundU (xb : Nat) (v t : Tm) (ps bs : List Bd) (w : World) (e : Ending) (w' : World) : Prop :=
 e = .returned (.int .i64 (rightE v t ps bs)) ∧ StU xb (ps.map (putP v t)) (bs.map (putB v t) ++ [(v, t)]) w' ∧ Below xb w w'
def TwoU (xb : Nat) (q : Tm × Tm × Int) (ps bs : List Bd) (w : World) (e : Ending) (w' : World) : Prop :=
 (q.2.2 ≠ 0 ∧ e = .returned (.int .i64 q.2.2) ∧ Below w.heap.size w w') ∨ (q.2.2 = 0 ∧ ∃ w0, Below w.heap.size w w0 ∧ BoundU xb q.1 q.2.1 ps bs w0 e w')
set_option maxHeartbeats 2000000 in
theorem two_any (xb : Nat) (a b : Tm) (A : Option Addr) (c : Nat) (A' : Option Addr) (c' : Nat) (ps bs : List Bd) (PA : Option Addr) (Pc : Nat) (BA : Option Addr) (Bc : Nat) (its : List IB) (w : World) (hS : StV xb ps bs PA Pc BA Bc its w)
  (ha : a.valid = 0) (hka : a.kind = 1) (hb : b.valid = 0) (hkb : b.kind = 1) (hps : ∀ p ∈ ps, p.1.valid = 0 ∧ p.2.valid = 0) (hbs : ∀ b ∈ bs, b.1.valid = 0 ∧ b.1.kind = 1 ∧ b.2.valid = 0) (hpl : ps.length ≤ 1000000) (hbl : bs.length ≤ 1000000)
  (hra : RepP w (qb1 xb (.slice BA its.length Bc) w) a A c) (hrb : RepP w (qb1 xb (.slice BA its.length Bc) w) b A' c') :
  Calls Tryz.prog 84 #[.pointer (some ⟨xb, 0, none⟩), a.val A c, b.val A' c'] w (TwoU xb (qav a b) ps bs w) := by
 have hxb := (Array.getElem?_eq_some_iff.1 hS.cell).1;obtain ⟨V, hV⟩ : ∃ V, V = (w.alloc (boxT a A c)).alloc (boxT b A' c') := ⟨_, rfl⟩;have h2 : Two w a b A A' c c' V := by rw [hV]; exact Two.new _ _ _ _ _ _ _
 have hlt := h2.lt;have hsz := h2.lay.size;have BD : Hid (∀ (Z : World) (x y : Tm) (X : Option Addr) (cx : Nat) (Y : Option Addr) (cy : Nat), Below w.heap.size w Z → x.valid = 0 → x.kind = 1 → y.valid = 0 → RepP w (qb1 xb (.slice BA its.length Bc) w) x X cx → RepP w (qb1 xb (.slice BA its.length Bc) w) y Y cy →
   Calls Tryz.prog 86 #[.pointer (some ⟨xb, 0, none⟩), x.val X cx, y.val Y cy] Z (BoundU xb x y ps bs Z)) := Lib.hid fun Z x y X cx Y cy hZ h1 h3 h4 h5 h6 =>
  qis xb x y X cx Y cy ps bs PA Pc BA Bc its Z (hS.keep hZ) h1 h3 h4 hps hbs hpl hbl (qb1.rep h5 hZ) (qb1.rep h6 hZ)
 have CM := qc3 1000000 a b A A' c c' V (by have := qah ha; omega) (Nat.le_refl _) (by have := qah hb; omega) (RepP.mono (fun k h => by have := h.2.1; omega) (fun p hp => h2.lay.below.cell hp.2.1) _ _ _ hra) (RepP.mono (fun k h => by have := h.2.1; omega) (fun p hp => h2.lay.below.cell hp.2.1) _ _ _ hrb);obtain ⟨q, hq⟩ : ∃ q, q = qav a b := ⟨_, rfl⟩;rw [← hq];unfold qav at hq;rw [if_pos hka, if_pos hkb] at hq;obtain ⟨cm, hcm⟩ : ∃ x, x = a.cmp b := ⟨_, rfl⟩;rw [← hcm] at hq CM;clear hcm;obtain ⟨a0, a1, a2, a3, af⟩ := qad h2.one;obtain ⟨b0, b1, b2, b3, bf⟩ := qad h2.two;have H2 := Lib.hid h2; clear h2;simp only [boxT] at hV;have HV := Lib.hid hV; clear hV;have HQ := Lib.hid hq; clear hq;have HA := Lib.hid (show a.valid = 0 ∧ a.kind = 1 from ⟨ha, hka⟩); clear ha hka;have HB := Lib.hid (show b.valid = 0 ∧ b.kind = 1 from ⟨hb, hkb⟩); clear hb hkb
 have HRA := Lib.hid hra; clear hra;have HRB := Lib.hid hrb; clear hrb;have HS := Lib.hid hS; clear hS;have CM := Lib.hid CM;clear hps hbs;simp only [Tm.val] at CM BD ⊢;rcases eq_facts a.sort b.sort with ⟨h0, e0, n0⟩ | ⟨h0, e0, n0⟩
 ·have hq := HQ.out.trans (if_pos h0);have HQ1 := Lib.hid hq; clear hq HQ;clear h0;by_cases hlt0 : cm < 0
  ·have hq := HQ1.out.trans (if_pos hlt0);subst hq;clear HQ1;go_enter Tryz.func84, Tryz.ntmps84
   go_wp2_with fail
   rw [← HV.out];go_wp2_with fail
   refine CM.out.mono ?_; clear CM a0 a1 a2 a3 af b0 b1 b2 b3 bf;rintro e w1 ⟨rfl, hl1⟩;obtain ⟨a0, a1, a2, a3, af⟩ := qad (H2.out.go hl1).one;obtain ⟨b0, b1, b2, b3, bf⟩ := qad (H2.out.go hl1).two;have HL1 := Lib.hid (H2.out.go hl1).lay; clear hl1;go_wp2_with fail
   have hZ : Below w.heap.size w ((((((((w1.setCell ⟨w.heap.size, 0, none⟩ (.int .i64 b.kind)).setCell ⟨w.heap.size, 1, none⟩ (.string b.name)).setCell ⟨w.heap.size, 2, none⟩ (.int .i64 b.sort)).setCell ⟨w.heap.size, 3, none⟩ (.slice A' b.kids.length c')).setCell ⟨w.heap.size + 1, 0, none⟩ (.int .i64 a.kind)).setCell ⟨w.heap.size + 1, 1, none⟩ (.string a.name)).setCell ⟨w.heap.size + 1, 2, none⟩ (.int .i64 a.sort)).setCell ⟨w.heap.size + 1, 3, none⟩ (.slice A a.kids.length c)) := by
    iterate 8 refine Below.setCell ?_ (by first | exact Nat.le_refl _ | exact Nat.le_succ _) _
    exact HL1.out.below
   have CB := BD.out _ b a A' c' A c hZ HB.out.1 HB.out.2 HA.out.1 HRB.out HRA.out;have HZ := Lib.hid hZ; clear hZ;refine CB.mono ?_; clear CB;rintro e w9 hbd;obtain ⟨rfl, hbd2⟩ := hbd;have HBD := Lib.hid hbd2; clear hbd2;go_wp2_with fail
   go_ret
   exact Or.inr ⟨rfl, _, HZ.out, rfl, HBD.out⟩
  ·have hq := HQ1.out.trans (if_neg hlt0);subst hq;clear HQ1;go_enter Tryz.func84, Tryz.ntmps84
   go_wp2_with fail
   rw [← HV.out];go_wp2_with fail
   refine CM.out.mono ?_; clear CM a0 a1 a2 a3 af b0 b1 b2 b3 bf;rintro e w1 ⟨rfl, hl1⟩;obtain ⟨a0, a1, a2, a3, af⟩ := qad (H2.out.go hl1).one;obtain ⟨b0, b1, b2, b3, bf⟩ := qad (H2.out.go hl1).two;have HL1 := Lib.hid (H2.out.go hl1).lay; clear hl1;go_wp2_with fail
   have hZ : Below w.heap.size w w1 := by
    exact HL1.out.below
   have CB := BD.out _ a b A c A' c' hZ HA.out.1 HA.out.2 HB.out.1 HRA.out HRB.out;have HZ := Lib.hid hZ; clear hZ;refine CB.mono ?_; clear CB;rintro e w9 hbd;obtain ⟨rfl, hbd2⟩ := hbd;have HBD := Lib.hid hbd2; clear hbd2;go_wp2_with fail
   go_ret
   exact Or.inr ⟨rfl, _, HZ.out, rfl, HBD.out⟩
 ·have hq := HQ.out.trans (if_neg h0);have HQ1 := Lib.hid hq; clear hq HQ;clear h0 CM;have HL0 := Lib.hid H2.out.lay;rcases eq_facts b.sort 0 with ⟨h1, e1, n1⟩ | ⟨h1, e1, n1⟩
  ·have hq := HQ1.out.trans (if_pos h1);subst hq;clear HQ1 h1;go_enter Tryz.func84, Tryz.ntmps84
   go_wp2_with fail
   have hZ : Below w.heap.size w ((w.alloc (.cells #[.int .i64 b.kind, .string b.name, .int .i64 b.sort, .slice A' b.kids.length c'] 24)).alloc (.cells #[.int .i64 a.kind, .string a.name, .int .i64 a.sort, .slice A a.kids.length c] 24)) :=
    ((Below.refl _ _).alloc (Nat.le_refl _) _).alloc (by simp) _
   have CB := BD.out _ b a A' c' A c hZ HB.out.1 HB.out.2 HA.out.1 HRB.out HRA.out;have HZ := Lib.hid hZ; clear hZ;refine CB.mono ?_; clear CB;rintro e w9 hbd;obtain ⟨rfl, hbd2⟩ := hbd;have HBD := Lib.hid hbd2; clear hbd2;go_wp2_with fail
   go_ret
   exact Or.inr ⟨rfl, _, HZ.out, rfl, HBD.out⟩
  ·have hq := HQ1.out.trans (if_neg h1);have HQ2 := Lib.hid hq; clear hq HQ1;clear h1;rcases eq_facts a.sort 0 with ⟨h2, e2, n2⟩ | ⟨h2, e2, n2⟩
   ·have hq := HQ2.out.trans (if_pos h2);subst hq;clear HQ2 h2;go_enter Tryz.func84, Tryz.ntmps84
    go_wp2_with fail
    rw [← HV.out];go_wp2_with fail
    have hZ : Below w.heap.size w V := by
     exact HL0.out.below
    have CB := BD.out _ a b A c A' c' hZ HA.out.1 HA.out.2 HB.out.1 HRA.out HRB.out;have HZ := Lib.hid hZ; clear hZ;refine CB.mono ?_; clear CB;rintro e w9 hbd;obtain ⟨rfl, hbd2⟩ := hbd;have HBD := Lib.hid hbd2; clear hbd2;go_wp2_with fail
    go_ret
    exact Or.inr ⟨rfl, _, HZ.out, rfl, HBD.out⟩
   ·have hq := HQ2.out.trans (if_neg h2);subst hq;clear HQ2 h2;go_enter Tryz.func84, Tryz.ntmps84
    go_wp2_with fail
    rw [← HV.out];go_wp2_with fail
    go_ret
    exact Or.inl ⟨by show (11 : Int) ≠ 0; decide, rfl, HL0.out.below⟩
end Go.Proofs.YtpjmdilpldaapaaGreatDoor
