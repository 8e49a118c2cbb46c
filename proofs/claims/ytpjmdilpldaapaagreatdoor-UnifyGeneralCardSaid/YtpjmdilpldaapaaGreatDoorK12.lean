/- Ugfresh, Ssame, Uref1, Urocc, Ugidx, Urput, Urapply, Ugst, Umix4, Ugof0 (joined by shake.py). -/
import Derived.Test.YtpjmdilpldaapaaGreatDoorK6
import Derived.Test.YtpjmdilpldaapaaGreatDoorK7
import Derived.Test.YtpjmdilpldaapaaGreatDoorK10
import Derived.Test.YtpjmdilpldaapaaGreatDoorK11
set_option maxRecDepth 100000
namespace Go.Proofs.YtpjmdilpldaapaaGreatDoor
open Go.RowKit Go.Sort Go.Maps
def qb7 (M : Nat) (w0 : World) : Prop := ∀ (i : Nat) (X : World), i < M → Below w0.heap.size w0 X → Calls Tryz.prog 67 #[.int .i64 i] X fun e w' => e = .returned (.string ⟨(Lib.decDigits i).toArray⟩) ∧ Lay X.heap.size X w'
theorem qb9 {w : World} {ops : Array Oper} {rest : List Oper} {o : Oper} {a : Act} {Q : Exit → Act → World → Prop} {m k r : Value} {t : TypeId} (hgd : o.guard = none) (om ok : Operand)
  (ho : o.op = .lookup t om ok false) (hm : a.eval om = m) (hk : a.eval ok = k) (hrun : (Instr.lookup t m k false).run Tryz.prog w = .ok r w) (h : wpList Tryz.prog ops Q rest (a.put o.dst r) w) : wpList Tryz.prog ops Q (o :: rest) a w := by
 refine wpList_plain hgd fun K hK => ?_;unfold Oper.wp;simp [execOp, ho, hm, hk, hrun, Result.andThen];exact hK _ _ h
def qju (mb next : Nat) (p v : Value) : Obj := .cells #[.map (some mb), .int .i64 next, p, v] 73 (0, 0)
theorem qfk (n : Nat) (h : n < 18446744073709551616) : (qax n).size ≤ 24 := by
 have h1 := qlj h;unfold qco at h1;simp only [Bool.and_eq_true, decide_eq_true_eq] at h1;rw [qex];exact h1.1.1
theorem heap_set1 {W : World} {B : Nat} {a b c d x : Value} {T : TypeId} (h : W.heap[B]? = some (.cells #[a, b, c, d] T (0, 0))) : (W.setCell ⟨B, 1, none⟩ x).heap[B]? = some (.cells #[a, x, c, d] T (0, 0)) := by
 simp [World.setCell, Array.getElem?_modify, h]
structure FreshAt (gb mb nn : Nat) (N : List ByteArray) (p v : Value) (w : World) (n : Nat) (Z : World) : Prop where
 bel : Below gb w Z
 cell : Z.heap[gb]? = some (qju mb n p v)
 box : Z.heap[w.heap.size]? = some (.cells #[.int .i64 0, .string ⟨#[]⟩, .int .i64 0, .slice none 0 0] 24 (0, 0))
 old : ∀ k, k < w.heap.size → k ≠ gb → Z.heap[k]? = w.heap[k]?
 set : qc5 Z mb nn N
structure Freshed (gb mb nn : Nat) (N : List ByteArray) (p v : Value) (n : Nat) (w w' : World) : Prop where
 bel : Below gb w w'
 cell : w'.heap[gb]? = some (qju mb n p v)
 old : ∀ k, k < w.heap.size → k ≠ gb → w'.heap[k]? = w.heap[k]?
 size : w.heap.size ≤ w'.heap.size
theorem FreshAt.lt {gb mb nn n : Nat} {N : List ByteArray} {p v : Value} {w Z : World} (h : FreshAt gb mb nn N p v w n Z) : w.heap.size < Z.heap.size := (Array.getElem?_eq_some_iff.1 h.box).1
theorem FreshAt.go {gb mb nn n : Nat} {N : List ByteArray} {p v : Value} {w Z Z' : World} (h : FreshAt gb mb nn N p v w n Z) (hb : Below Z.heap.size Z Z') : FreshAt gb mb nn N p v w n Z' :=
 ⟨h.bel.trans (hb.mono (Nat.le_of_lt (Array.getElem?_eq_some_iff.1 h.cell).1)), (hb.block _ (Array.getElem?_eq_some_iff.1 h.cell).1).trans h.cell, (hb.block _ h.lt).trans h.box, fun k hk hne => (hb.block k (by have := h.lt; omega)).trans (h.old k hk hne), h.set.keep (hb.block _ h.set.lt)⟩
theorem FreshAt.next {gb mb nn n : Nat} {N : List ByteArray} {p v : Value} {w Z : World} (h : FreshAt gb mb nn N p v w n Z) (hg : gb < w.heap.size) (hm : mb ≠ gb) (m : Nat) : FreshAt gb mb nn N p v w m (Z.setCell ⟨gb, 1, none⟩ (.int .i64 m)) := by
 have ho : ∀ k, k ≠ gb → (Z.setCell ⟨gb, 1, none⟩ (.int .i64 m)).heap[k]? = Z.heap[k]? := fun k hk => Below.heap_setCell _ _ _ _ hk;exact ⟨h.bel.setCell (by exact Nat.le_refl gb) _, heap_set1 h.cell, (ho _ (by omega)).trans h.box, fun k hk hne => (ho k hne).trans (h.old k hk hne), h.set.keep (ho _ hm)⟩
set_option maxHeartbeats 2000000 in
theorem qjv (gb mb nn : Nat) (N : List ByteArray) (next : Nat) (p v : Value) (sort : Int) (w0 w : World) (M : Nat) (HI : qb7 M w0) (hw0 : Below w0.heap.size w0 w) (hg0 : w0.heap.size ≤ gb) (hM : qa9 N next < M) (hM2 : M ≤ 1000000)
  (hc : w.heap[gb]? = some (qju mb next p v)) (hm : mb ≠ gb) (hset : qc5 w mb nn N) :
  Calls Tryz.prog 79 #[.pointer (some ⟨gb, 0, none⟩), .int .i64 sort] w fun e w' => e = .returned ((Tm.mk 1 (qax (qa9 N next)) sort []).val none 0) ∧ Freshed gb mb nn N p v (qa9 N next + 1) w w' := by
 have hgb := (Array.getElem?_eq_some_iff.1 hc).1;obtain ⟨V, hV⟩ : ∃ V, V = w.alloc (.cells #[.int .i64 0, .string ⟨#[]⟩, .int .i64 0, .slice none 0 0] 24) := ⟨_, rfl⟩;have hbV : Below w.heap.size w V := by rw [hV]; exact qaf (Nat.le_refl _) _
 have hf : FreshAt gb mb nn N p v w next V := ⟨hbV.mono (Nat.le_of_lt hgb), (hbV.block _ hgb).trans hc, by rw [hV]; exact heap_alloc_new _ _, fun k hk _ => hbV.block k hk, hset.keep (hbV.block _ hset.lt)⟩;obtain ⟨F, hF⟩ : ∃ F, F = qa9 N next := ⟨_, rfl⟩;rw [← hF] at hM ⊢;obtain ⟨hf1, hf2, hf3, hf4⟩ := qbq N next;rw [← hF] at hf1 hf3 hf4;have HF1 : Hid (qax F ∉ N ∧ ∀ i, next ≤ i → i < F → qax i ∈ N) := ⟨hf3, hf4⟩;clear hf2 hf3 hf4 hbV hset hc;have HFA := Lib.hid hf; clear hf;have HFE := Lib.hid hF; clear hF;have HII := Lib.hid HI; clear HI;have HW0 := Lib.hid hw0; clear hw0;have HV := Lib.hid hV; clear hV;go_enter Tryz.func79, Tryz.ntmps79
 go_wp2_with fail
 rw [← HV.out];go_loopw [5] (fun _ wr => ∃ n : Nat, next ≤ n ∧ n ≤ F ∧ Hid (FreshAt gb mb nn N p v w n wr)) (fun _ wr => F + 1 - (match wr.cell? ⟨gb, 1, none⟩ with | some (.int .i64 n) => n.toNat | _ => 0))
 case atStart => exact ⟨next, Nat.le_refl _, hf1, HFA.out⟩
 case round =>
  obtain ⟨n, hn1, hn2, HA⟩ := hrel;have hlt := HA.out.lt;obtain ⟨c0, c1, c2, c3, cf⟩ := qad (show wr.heap[gb]? = some (.cells #[.map (some mb), .int .i64 n, p, v] 73 (0, 0)) from HA.out.cell);have m1 : (wr.cell? ⟨gb, 1, none⟩) = some (.int .i64 n) := c1;have IT := HII.out n wr (by omega) (HW0.out.trans (HA.out.bel.mono hg0));have hgn := qfk n (by omega);obtain ⟨nm, hnm⟩ : ∃ nm : ByteArray, nm = ⟨(Lib.decDigits n).toArray⟩ := ⟨_, rfl⟩;have hgm : qax n = (⟨#[103]⟩ : ByteArray) ++ nm := by rw [hnm]; rfl
  rw [← hnm] at IT;have hsz : nm.size ≤ 24 := by
   have h1 : ((⟨#[103]⟩ : ByteArray) ++ nm).size = 1 + nm.size := by rw [ByteArray.size_append]; rfl
   rw [hgm, h1] at hgn; omega
  clear hnm;have HGM := Lib.hid hgm; clear hgm;have IT := Lib.hid IT;go_wp2_with fail
  refine IT.out.mono ?_; clear IT c0 c1 c2 c3 cf;rintro e w2 ⟨rfl, hl2⟩;have HA2 := Lib.hid (HA.out.go hl2.below); clear hl2 HA;obtain ⟨c0, c1, c2, c3, cf⟩ := qad (show w2.heap[gb]? = some (.cells #[.map (some mb), .int .i64 n, p, v] 73 (0, 0)) from HA2.out.cell);have hA3 : FreshAt gb mb nn N p v w (n + 1) (w2.setCell ⟨gb, 1, none⟩ (.int .i64 ((n : Int) + 1))) := HA2.out.next hgb hm (n + 1);obtain ⟨q, hq⟩ : ∃ q, q = decide (qax n ∈ N) := ⟨_, rfl⟩;have hlook := hA3.set.look (s := qax n) (by unfold maxLen; omega) q (by rw [hq]; simp);rw [HGM.out] at hlook;have HA3 := Lib.hid hA3; clear hA3;have HQ := Lib.hid hq; clear hq
  cases q with
  | true =>
   have hin : qax n ∈ N := by have h := HQ.out.symm; simpa using h
   have hlt3 : n < F := by
    rcases Nat.lt_or_eq_of_le hn2 with h | h
    ·exact h
    ·rw [h] at hin; exact absurd hin HF1.out.1
   have e1 : (wr.cell? ⟨gb, 1, none⟩) = some (.int .i64 n) := m1;clear m1 HQ hin;go_wp2_with (at_lookup; refine qb9 rfl _ _ rfl rfl rfl hlook ?_)
   go_roundw
   case rel => exact ⟨n + 1, by omega, by omega, HA3.out⟩
   case measure =>
    obtain ⟨d0, d1, d2, d3, df⟩ := qad (show (w2.setCell ⟨gb, 1, none⟩ (.int .i64 ((n : Int) + 1))).heap[gb]? = some (.cells #[.map (some mb), .int .i64 ((n + 1 : Nat) : Int), p, v] 73 (0, 0)) from HA3.out.cell);rw [d1, e1];show F + 1 - ((n + 1 : Nat) : Int).toNat < F + 1 - (n : Int).toNat;omega
  | false =>
   have hnot : qax n ∉ N := by have h := HQ.out.symm; simpa using h
   obtain rfl : n = F := by
    rcases Nat.lt_or_eq_of_le hn2 with h | h
    ·exact absurd (HF1.out.2 n hn1 h) hnot
    ·exact h
   clear hnot HQ m1;obtain ⟨b0, b1, b2, b3, bf⟩ := qad HA2.out.box;have hne : w.heap.size ≠ gb := by omega
   go_wp2_with (at_lookup; refine qb9 rfl _ _ rfl rfl rfl hlook ?_)
   obtain ⟨W3, hW3⟩ : ∃ W3, W3 = w2.setCell ⟨gb, 1, none⟩ (.int .i64 ((n : Int) + 1)) := ⟨_, rfl⟩;have hA3 := HA3.out;rw [← hW3] at hA3 ⊢;obtain ⟨e0, e1, e2, e3, ef⟩ := qad hA3.box;refine bodyPost_ret (v := .agg #[.int .i64 1, .string ((⟨#[103]⟩ : ByteArray) ++ nm), .int .i64 sort, .slice none 0 0]) ?_ rfl ?_
   ·simp [results, Tryz.results79, go_sem, e0, e1, e2, e3]
   have hob : ∀ k, k ≠ w.heap.size → ((((W3.setCell ⟨w.heap.size, 0, none⟩ (.int .i64 1)).setCell ⟨w.heap.size, 1, none⟩ (.string ((⟨#[103]⟩ : ByteArray) ++ nm))).setCell ⟨w.heap.size, 2, none⟩ (.int .i64 sort)).setCell ⟨w.heap.size, 3, none⟩ (.slice none 0 0)).heap[k]? = W3.heap[k]? := fun k hk => by
    iterate 4 rw [Below.heap_setCell _ _ _ _ hk]
   refine ⟨by rw [HGM.out]; rfl, ⟨?_, (hob _ hne.symm).trans hA3.cell, fun k hk hkg => (hob k (by omega)).trans (hA3.old k hk hkg), by have := hA3.lt; simp [World.setCell]; omega⟩⟩
   iterate 4 refine Below.setCell ?_ (by show gb ≤ w.heap.size; omega) _
   exact hA3.bel
end Go.Proofs.YtpjmdilpldaapaaGreatDoor
namespace Go.Proofs.YtpjmdilpldaapaaGreatDoor
open Go.RowKit Go.Sort
theorem qem {l m : List Bd} (h : l ≠ m) : decide (l = m) = false := decide_eq_false h
section
variable {P : Program} {ops : Array Oper} {C : World → Prop} {Q : Act → Prop}
@[irreducible] def WQ (P : Program) (ops : Array Oper) (C : World → Prop) (Q : Act → Prop) (l : List Oper) (a : Act) : Prop := wpQuiet P ops C Q l a
theorem of_WQ {l : List Oper} {a : Act} (h : WQ P ops C Q l a) : wpQuiet P ops C Q l a := by unfold WQ at h; exact h
theorem to_WQ {l : List Oper} {a : Act} (h : wpQuiet P ops C Q l a) : WQ P ops C Q l a := by unfold WQ; exact h
theorem WQ_nil {a : Act} (h : Q a) : WQ P ops C Q [] a := to_WQ (wpQuiet_nil h)
theorem qfo {a : Act} {o : Oper} {rest : List Oper} (h : ∀ K : Act → Prop, (∀ a, WQ P ops C Q rest a → K a) → if Region.wanted o (yielded ops a.tmps) then o.quiet P a C K else K (a.put o.dst undef)) : WQ P ops C Q (o :: rest) a :=
 to_WQ (wpQuiet_step fun K hK => h K fun a ha => hK a (of_WQ ha))
theorem WQ_skip {a : Act} {o : Oper} {rest : List Oper} (hw : Region.wanted o (yielded ops a.tmps) = false) (h : WQ P ops C Q rest (a.put o.dst undef)) : WQ P ops C Q (o :: rest) a := by
 refine to_WQ ?_;have h := of_WQ h;rw [wpQuiet, hw];exact h
end
set_option maxHeartbeats 1000000 in
theorem ql6 (t u : Tm) (A A' : Option Addr) (c c' : Nat) (w : World) (ht : t.kids.length ≤ 1000000) (hu : u.kids.length ≤ 1000000) :
  Calls Tryz.prog 63 #[t.val A c, u.val A' c'] w fun e w' => e = .returned (.bool (qa1 t u)) ∧ Lay w.heap.size w w' := by
 have h2 : Lay w.heap.size w ((w.alloc (boxT t A c)).alloc (boxT u A' c')) := (Two.new w t u A A' c c').lay;simp only [boxT] at h2;have H2 := Lib.hid h2; clear h2;have e1 : qa1 t u = (if (t.kind == 3) = true then (if (u.kind == 3) = true then (if (t.name.toList == u.name.toList) = true then ((t.kids.length : Int) == (u.kids.length : Int)) else false) else false) else false) := by
  unfold qa1;have hn : decide (t.name = u.name) = (t.name.toList == u.name.toList) := by
   rw [Bool.eq_iff_iff, decide_eq_true_iff, beq_iff_eq];exact ⟨fun h => by rw [h], fun h => by rw [ByteArray.toList_eq, ByteArray.toList_eq] at h; exact ByteArray.ext (Array.toList_inj.1 h)⟩
  have hl : decide (t.kids.length = u.kids.length) = ((t.kids.length : Int) == (u.kids.length : Int)) := by
   rw [Bool.eq_iff_iff, decide_eq_true_iff, beq_iff_eq]; omega
  have hk : ∀ x : Tm, decide (x.kind = 3) = (x.kind == 3) := fun x => by rw [Bool.eq_iff_iff, decide_eq_true_iff, beq_iff_eq]
  rw [hn, hl, hk, hk];cases t.kind == 3 <;> cases u.kind == 3 <;> cases t.name.toList == u.name.toList <;> rfl
 rw [e1];clear e1;have k1 : (t.kids.length : Int) ≤ 9223372036854775807 := by omega
 have k2 : (u.kids.length : Int) ≤ 9223372036854775807 := by omega
 simp only [Tm.val];generalize hq1 : (t.kind == 3) = q1;generalize hq2 : (u.kind == 3) = q2;generalize hq3 : (t.name.toList == u.name.toList) = q3
 cases q1 with
 | false =>
  go_enter Tryz.func63, Tryz.ntmps63
  go_wp2_with fail
  go_ret
  exact ⟨rfl, H2.out⟩
 | true =>
  cases q2 with
  | false =>
   go_enter Tryz.func63, Tryz.ntmps63
   go_wp2_with fail
   go_ret
   exact ⟨rfl, H2.out⟩
  | true =>
   cases q3 with
   | false =>
    go_enter Tryz.func63, Tryz.ntmps63
    go_wp2_with fail
    go_ret
    exact ⟨rfl, H2.out⟩
   | true =>
    go_enter Tryz.func63, Tryz.ntmps63
    go_wp2_with fail
    go_ret
    exact ⟨by simp, H2.out⟩
set_option maxHeartbeats 1000000 in
theorem both_any (t u : Tm) (A A' : Option Addr) (c c' : Nat) (w : World) (ht : t.size ≤ 1000000) (hu : u.size ≤ 1000000) (hrt : RepT w w.heap.size t A c) (hru : RepT w w.heap.size u A' c') :
  Calls Tryz.prog 39 #[t.val A c, u.val A' c'] w fun e w' => e = .returned (.int .i64 (qbd t u)) ∧ Lay w.heap.size w w' := by
 obtain ⟨V, hV⟩ : ∃ V, V = (w.alloc (boxT t A c)).alloc (boxT u A' c') := ⟨_, rfl⟩;have h2 : Two w t u A A' c c' V := by rw [hV]; exact Two.new _ _ _ _ _ _ _
 have V1 := qhc t A c V ht (hrt.go h2.lay.below h2.lay.size);have V2 : Hid (∀ Z, Lay V.heap.size V Z → Calls Tryz.prog 29 #[u.val A' c'] Z fun e w' => e = .returned (.int .i64 u.valid) ∧ Lay Z.heap.size Z w') := Lib.hid fun Z h => qhc u A' c' Z hu (hru.go (qae h2.lay.below h.below h2.lay.size) (Nat.le_trans h2.lay.size h.size));obtain ⟨r, hr⟩ : ∃ r, r = qbd t u := ⟨_, rfl⟩;rw [← hr];unfold qbd at hr;obtain ⟨vt, hvt⟩ : ∃ x, x = t.valid := ⟨_, rfl⟩;obtain ⟨vu, hvu⟩ : ∃ x, x = u.valid := ⟨_, rfl⟩;rw [← hvt, ← hvu] at hr;rw [← hvt] at V1;rw [← hvu] at V2;clear hvt hvu;have HR := Lib.hid hr; clear hr;have H2 := Lib.hid h2;obtain ⟨a0, a1, a2, a3, -⟩ := qad h2.one;clear h2;simp only [boxT] at hV;have HV := Lib.hid hV; clear hV;have V1 := Lib.hid V1;simp only [Tm.val] at V1 V2 ⊢
 go_enter Tryz.func39, Tryz.ntmps39
 go_wp2_with fail
 rw [← HV.out];go_wp2_with fail
 refine V1.out.mono ?_; clear V1 a0 a1 a2 a3;rintro e w1 ⟨rfl, hl1⟩;rcases eq_facts vt 0 with ⟨h0, e0, n0⟩ | ⟨h0, e0, n0⟩
 ·have hr := HR.out.trans (if_neg (by simpa using h0));subst h0;subst hr;obtain ⟨b0, b1, b2, b3, -⟩ := qad (H2.out.go hl1).two;have V2 := Lib.hid (V2.out w1 hl1);have HL := Lib.hid (H2.out.go hl1).lay; clear hl1 HR;go_wp2_with fail
  refine V2.out.mono ?_; clear V2;rintro e w2 ⟨rfl, hl2⟩;go_wp2_with fail
  go_ret
  exact ⟨rfl, HL.out.trans (hl2.mono HL.out.size)⟩
 ·have hr := HR.out.trans (if_pos h0);subst hr;have HL := Lib.hid (H2.out.go hl1).lay; clear hl1 HR h0;go_wp2_with fail
  go_ret
  exact ⟨rfl, HL.out⟩
structure One (w : World) (x : Tm) (A : Option Addr) (c : Nat) (V : World) : Prop where
 lay : Lay w.heap.size w V
 one : V.heap[w.heap.size]? = some (boxT x A c)
theorem One.new (w : World) (x : Tm) (A : Option Addr) (c : Nat) : One w x A c (w.alloc (boxT x A c)) := ⟨(Lay.refl _ _).alloc (Nat.le_refl _) _, heap_alloc_new _ _⟩
theorem One.lt {w V : World} {x : Tm} {A : Option Addr} {c : Nat} (h : One w x A c V) : w.heap.size < V.heap.size := (Array.getElem?_eq_some_iff.1 h.one).1
theorem One.go {w V W : World} {x : Tm} {A : Option Addr} {c : Nat} (h : One w x A c V) (hl : Lay V.heap.size V W) : One w x A c W :=
 ⟨h.lay.trans (hl.mono h.lay.size), (hl.below.block _ h.lt).trans h.one⟩
def TestP (g : Nat) (caps : Array Value) (p : Bd → Bool) (l : List Bd) (w : World) : Prop :=
 ∀ b ∈ l, ∀ (A : Option Addr) (c : Nat) (A' : Option Addr) (c' : Nat) (Z : World), Below w.heap.size w Z → RepT Z Z.heap.size b.1 A c → RepT Z Z.heap.size b.2 A' c' → Calls Tryz.prog g (#[bval b A c A' c'] ++ caps) Z fun e w' => e = .returned (.bool (p b)) ∧ Below Z.heap.size Z w'
def FoundP (p : Bd → Bool) (l : List Bd) (n : Int) : Prop := (n < 0 ∧ ∀ b ∈ l, p b = false) ∨ ∃ i : Nat, n = i ∧ ∃ h : i < l.length, p l[i] = true ∧ ∀ j, (hj : j < l.length) → j < i → p l[j] = false
set_option maxHeartbeats 1000000 in
theorem qms (l : List Bd) (A0 : Option Addr) (cap0 : Nat) (g : Nat) (caps : Array Value) (p : Bd → Bool) (w : World) (eg : ∀ args w, (callFunc g args).run Tryz.prog w = .ok (.enter g args) w) (hp : TestP g caps p l w) (hlen : l.length ≤ 1000000) (hrep : RepB w (fun b => b < w.heap.size) l A0 cap0) :
  Calls Tryz.prog 77 #[.slice A0 l.length cap0, .func (.func g) #[] caps] w fun e w' => ∃ n : Int, e = .returned (.int .i64 n) ∧ FoundP p l n ∧ Below w.heap.size w w' := by
 have mixed : Tryz.prog.follows .mixedOrders = true := by kernel_rfl
 obtain ⟨h1, h2, h3⟩ := hrep;unfold maxLen at h2;have HP := Lib.hid hp; clear hp;go_enter Tryz.func77, Tryz.ntmps77
 go_wp2_with fail
 go_loopw [5, 8] (fun _ i wr => ∃ k : Nat, k ≤ l.length ∧ i = .int .i64 k ∧ Hid (∀ j, (hj : j < l.length) → j < k → p l[j] = false) ∧ Hid (Below w.heap.size w wr)) (fun _ i _ => l.length - (intOf i).toNat)
 case atStart => exact ⟨0, Nat.zero_le _, rfl, fun j _ h => absurd h (Nat.not_lt_zero j), Below.refl _ _⟩
 case round =>
  obtain ⟨k, hk, rfl, HR, HBW⟩ := hrel;have i1 : (0 : Int) ≤ (k : Int) := Int.natCast_nonneg _;by_cases hlt : k < l.length
  ·have i2 : (k : Int) < (l.length : Int) := by omega
   rcases h3 with rfl | ⟨b, off, rfl, hbB, hl⟩
   ·simp at hlt
   have hws := HBW.out.size;have hlr : qao wr (fun b => b < w.heap.size) (flat l) b off := qao.mono (fun _ h => h) (fun p hp => HBW.out.cell hp) _ _ _ hbB hl;obtain ⟨A, c, A', c', h8⟩ := hlr.get8 k hlt;have up : ∀ (t : Tm) A c, RepP wr (fun b => b < w.heap.size) t A c → RepT wr wr.heap.size t A c := fun t A c h => RepP.mono (fun b (h : b < w.heap.size) => Nat.lt_of_lt_of_le h hws) (fun _ _ => rfl) _ _ _ h;have HC := Lib.hid (HP.out l[k] (List.getElem_mem hlt) A c A' c' wr HBW.out (up _ _ _ h8.r1) (up _ _ _ h8.r2));obtain ⟨q, hq⟩ : ∃ q, q = p l[k] := ⟨_, rfl⟩;rw [← hq] at HC;have HQ := Lib.hid hq;obtain ⟨a0, a1, a2, a3, b0, b1, b2, b3, -, -⟩ := h8;clear hq hlr hl up;simp only [bval, qei] at HC
   cases q with
   | true =>
    go_wp2_with (go_at_fn g; refine HC.out.mono ?_; rintro e w' ⟨rfl, hb'⟩)
    go_ret
    exact ⟨k, rfl, .inr ⟨k, rfl, hlt, HQ.out.symm, HR.out⟩, HBW.out.trans (hb'.mono hws)⟩
   | false =>
    have HNX : Hid (∀ j, (hj : j < l.length) → j < k + 1 → p l[j] = false) := fun j hj hjk => by
     rcases Nat.lt_or_eq_of_le (Nat.le_of_lt_succ hjk) with h | h
     ·exact HR.out j hj h
     ·subst h; exact HQ.out.symm
    go_wp2_with (go_at_fn g; refine HC.out.mono ?_; rintro e w' ⟨rfl, hb'⟩)
    go_roundw
    case rel => exact ⟨k + 1, by omega, by go_num, HNX, HBW.out.trans (hb'.mono hws)⟩
    case measure => simp [intOf]; omega
  ·obtain rfl : k = l.length := by omega
   have HN : Hid (∀ b ∈ l, p b = false) := fun b hb => by
    obtain ⟨i, hi, rfl⟩ := List.getElem_of_mem hb;exact HR.out i hi hi
   go_wp2_with fail
   go_ret
   exact ⟨-1, rfl, .inl ⟨by decide, HN.out⟩, HBW.out⟩
set_option maxHeartbeats 1000000 in
theorem of1_any (b : Bd) (t u : Tm) (A1 A2 T U : Option Addr) (c1 c2 ct cu tb ub : Nat) (w : World) (h1 : b.1.size ≤ 1000000) (h2 : b.2.size ≤ 1000000) (ht : t.size ≤ 1000000) (hu : u.size ≤ 1000000)
  (hx : w.heap[tb]? = some (boxT t T ct)) (hy : w.heap[ub]? = some (boxT u U cu)) (hr1 : RepT w w.heap.size b.1 A1 c1) (hr2 : RepT w w.heap.size b.2 A2 c2) (hrt : RepT w w.heap.size t T ct) (hru : RepT w w.heap.size u U cu) :
  Calls Tryz.prog 78 #[bval b A1 c1 A2 c2, .pointer (some ⟨tb, 0, none⟩), .pointer (some ⟨ub, 0, none⟩)] w fun e w' => e = .returned (.bool (decide (b.1 = t) && decide (b.2 = u))) ∧ Below w.heap.size w w' := by
 have htb := (Array.getElem?_eq_some_iff.1 hx).1;have hub := (Array.getElem?_eq_some_iff.1 hy).1;obtain ⟨V, hV⟩ : ∃ V, V = w.alloc (.cells (qei b A1 c1 A2 c2) 53) := ⟨_, rfl⟩;have hbV : Below w.heap.size w V := by rw [hV]; exact qaf (Nat.le_refl _) _
 have hvb : V.heap[w.heap.size]? = some (.cells (qei b A1 c1 A2 c2) 53 (0, 0)) := by rw [hV]; exact heap_alloc_new _ _
 have hsV : w.heap.size < V.heap.size := by rw [hV]; simp
 have S1 := qck b.1 t A1 T c1 ct V h1 ht (hr1.go hbV hbV.size) (hrt.go hbV hbV.size);have S2 : Hid (∀ Z, Below w.heap.size w Z → Calls Tryz.prog 48 #[b.2.val A2 c2, u.val U cu] Z fun e w' => e = .returned (.bool (decide (b.2 = u))) ∧ Lay Z.heap.size Z w') := Lib.hid fun Z hZ => qck b.2 u A2 U c2 cu Z h2 hu (hr2.go hZ hZ.size) (hru.go hZ hZ.size);have hx2 := (hbV.block _ htb).trans hx;have hy2 := (hbV.block _ hub).trans hy;obtain ⟨q1, hq1⟩ : ∃ q, q = decide (b.1 = t) := ⟨_, rfl⟩;obtain ⟨q2, hq2⟩ : ∃ q, q = decide (b.2 = u) := ⟨_, rfl⟩;rw [← hq1, ← hq2];rw [← hq1] at S1;rw [← hq2] at S2;clear hq1 hq2;simp only [qei] at hvb hV;obtain ⟨t0, t1, t2, t3, -⟩ := qam t (hx2);rw [hV] at t0 t1 t2 t3;have HBV := Lib.hid hbV; clear hbV;have HV := Lib.hid hV; clear hV;have HVB := Lib.hid hvb; clear hvb;have HY := Lib.hid hy2; clear hy2;simp only [Tm.val] at S1 S2
 have S1 := Lib.hid S1;simp only [bval, qei];go_enter Tryz.func78, Tryz.ntmps78
 cases q1 with
 | false =>
  go_wp2_with fail
  rw [← HV.out];refine S1.out.mono ?_; clear S1;rintro e w1 ⟨rfl, hl1⟩;go_wp2_with fail
  go_ret
  exact ⟨rfl, qae HBV.out hl1.below HBV.out.size⟩
 | true =>
  go_wp2_with fail
  rw [← HV.out];refine S1.out.mono ?_; clear S1 t0 t1 t2 t3;rintro e w1 ⟨rfl, hl1⟩;obtain ⟨a0, a1, a2, a3, a4, a5, a6, a7⟩ := eight_at ((hl1.below.block _ hsV).trans HVB.out);have hub2 : ub < V.heap.size := (Array.getElem?_eq_some_iff.1 HY.out).1;obtain ⟨u0, u1, u2, u3, -⟩ := qam u ((hl1.below.block _ hub2).trans HY.out);have HB1 := Lib.hid (qae HBV.out hl1.below HBV.out.size); clear hl1;have S2 := Lib.hid (S2.out w1 HB1.out);go_wp2_with fail
  refine S2.out.mono ?_; clear S2;rintro e w2 ⟨rfl, hl2⟩;go_wp2_with fail
  go_ret
  exact ⟨by simp, qae HB1.out hl2.below HB1.out.size⟩
structure KeepS (wr : World) (v : Value) (Y : World) : Prop where
 cell : ∀ p : Addr, p.block < wr.heap.size → v.ownBlock ≠ some p.block → Y.cell? p = wr.cell? p
theorem qih {w : World} {P : Nat → Prop} {t : Tm} {A : Option Addr} {c : Nat} (h : RepP w P t A c) : t.name.size ≤ maxLen ∧ t.kids.length ≤ c ∧ c ≤ maxLen ∧ (t.kids = [] ∨ ∃ b off, A = some ⟨b, off, none⟩ ∧ P b ∧ qao w P t.kids b off) := by
 obtain ⟨k, n, s, l⟩ := t;rw [qa7] at h;exact h
theorem size3 (t : Tm) : t.size = 1 + Tm.sizes t.kids := by obtain ⟨k, n, s, l⟩ := t; rw [Tm.size]; rfl
structure Four (w : World) (o1 o2 o3 o4 : Obj) (Z : World) : Prop where
 one : Z.heap[w.heap.size]? = some o1
 two : Z.heap[w.heap.size + 1]? = some o2
 three : Z.heap[w.heap.size + 1 + 1]? = some o3
 four : Z.heap[w.heap.size + 1 + 1 + 1]? = some o4
 bel : Below w.heap.size w Z
theorem Four.lt {w Z : World} {o1 o2 o3 o4 : Obj} (h : Four w o1 o2 o3 o4 Z) : w.heap.size + 4 ≤ Z.heap.size := (Array.getElem?_eq_some_iff.1 h.four).1
theorem Four.new (w : World) (o1 o2 o3 o4 : Array Value) (T : TypeId) : Four w (.cells o1 T (0, 0)) (.cells o2 T (0, 0)) (.cells o3 T (0, 0)) (.cells o4 T (0, 0)) ((((w.alloc (.cells o1 T)).alloc (.cells o2 T)).alloc (.cells o3 T)).alloc (.cells o4 T)) := by
 have s1 : (w.alloc (.cells o1 T)).heap.size = w.heap.size + 1 := by simp
 have s2 : ((w.alloc (.cells o1 T)).alloc (.cells o2 T)).heap.size = w.heap.size + 1 + 1 := by simp
 have s3 : (((w.alloc (.cells o1 T)).alloc (.cells o2 T)).alloc (.cells o3 T)).heap.size = w.heap.size + 1 + 1 + 1 := by simp
 refine ⟨?_, ?_, ?_, ?_, ?_⟩
 ·rw [Below.heap_alloc _ _ _ (by omega), Below.heap_alloc _ _ _ (by omega), Below.heap_alloc _ _ _ (by omega)]; exact heap_alloc_new _ _
 ·rw [Below.heap_alloc _ _ _ (by omega), Below.heap_alloc _ _ _ (by omega)]; have h := heap_alloc_new (w.alloc (.cells o1 T)) (.cells o2 T); rw [s1] at h; exact h
 ·rw [Below.heap_alloc _ _ _ (by omega)]; have h := heap_alloc_new ((w.alloc (.cells o1 T)).alloc (.cells o2 T)) (.cells o3 T); rw [s2] at h; exact h
 ·have h := heap_alloc_new (((w.alloc (.cells o1 T)).alloc (.cells o2 T)).alloc (.cells o3 T)) (.cells o4 T); rw [s3] at h; exact h
 ·exact ((((Below.refl _ _).alloc (Nat.le_refl _) _).alloc (by omega) _).alloc (by omega) _).alloc (by omega) _
theorem Four.keep {w Z Z' : World} {o1 o2 o3 o4 : Obj} (h : Four w o1 o2 o3 o4 Z) (hb : ∀ k, w.heap.size ≤ k → k < w.heap.size + 4 → Z'.heap[k]? = Z.heap[k]?) (hbel : Below w.heap.size w Z') : Four w o1 o2 o3 o4 Z' :=
 ⟨(hb _ (by omega) (by omega)).trans h.one, (hb _ (by omega) (by omega)).trans h.two, (hb _ (by omega) (by omega)).trans h.three, (hb _ (by omega) (by omega)).trans h.four, hbel⟩
structure TwoA (w : World) (o1 o2 : Obj) (Z : World) : Prop where
 one : Z.heap[w.heap.size]? = some o1
 two : Z.heap[w.heap.size + 1]? = some o2
 bel : Below w.heap.size w Z
theorem TwoA.lt {w Z : World} {o1 o2 : Obj} (h : TwoA w o1 o2 Z) : w.heap.size + 2 ≤ Z.heap.size := (Array.getElem?_eq_some_iff.1 h.two).1
theorem TwoA.keep {w Z Z' : World} {o1 o2 : Obj} (h : TwoA w o1 o2 Z) (hb : ∀ k, w.heap.size ≤ k → k < w.heap.size + 2 → Z'.heap[k]? = Z.heap[k]?) (hbel : Below w.heap.size w Z') : TwoA w o1 o2 Z' :=
 ⟨(hb _ (by omega) (by omega)).trans h.one, (hb _ (by omega) (by omega)).trans h.two, hbel⟩
theorem TwoA.go {w Z Z' : World} {o1 o2 : Obj} (h : TwoA w o1 o2 Z) (hb : Below Z.heap.size Z Z') : TwoA w o1 o2 Z' :=
 h.keep (fun k _ hk => hb.block k (by have := h.lt; omega)) (h.bel.trans (hb.mono (by have := h.lt; omega)))
def ownA (A : Option Addr) : Option Nat := (Value.slice A 0 0).ownBlock
theorem qaq (A : Option Addr) (n c : Nat) : (Value.slice A n c).ownBlock = ownA A := by cases A <;> rfl
theorem qbb {w w' : World} {base : Nat} {F F' : Nat → Prop} {v : Value} {its : List It} (h : RowT w base F v its) (hs : w.heap.size ≤ w'.heap.size) (hv : ∀ k, v.ownBlock = some k → w'.heap[k]? = w.heap[k]?)
  (hF : ∀ b, F b → b < w.heap.size → v.ownBlock ≠ some b → F' b ∧ w'.heap[b]? = w.heap[b]?) : RowT w' base F' v its := by
 refine ⟨⟨h.own.1, ?_⟩, fun x hx => ?_⟩
 ·rcases h.own.2 with hn | ⟨g, cap, cur, hv', hb, hg, r⟩
  ·exact .inl hn
  ·exact .inr ⟨g, cap, cur, hv', hb, by rw [hv g (by rw [hv']; rfl)]; exact hg, r⟩
 ·refine RepP.mono ?_ ?_ _ _ _ (h.reps x hx)
  ·rintro b ⟨h1, h2, h3⟩;exact ⟨(hF b h1 h2 h3).1, by omega, h3⟩
  ·rintro p ⟨h1, h2, h3⟩;exact World.cell?_of_block (hF p.block h1 h2 h3).2
structure GenAt (gb mb nn B : Nat) (N : List ByteArray) (g : Gs) (PA : Option Addr) (Pc : Nat) (VA : Option Addr) (Vc : Nat) (its : List IB) (vts : List It) (w : World) : Prop where
 cell : w.heap[gb]? = some (qju mb g.next (.slice PA its.length Pc) (.slice VA vts.length Vc))
 set : qc5 w mb nn N
 row : RowG 53 w (gb + 1) (fun b => b < B) (.slice PA its.length Pc) its
 vrow : RowT w (gb + 1) (fun _ => False) (.slice VA vts.length Vc) vts
 pairs : its.map IB.bd = g.pairs
 vars : vts.map (·.1) = g.vars
 leaf : ∀ x ∈ vts, x.1.kids = []
 apart : ∀ b, ownA PA = some b → ownA VA ≠ some b
section
variable {gb mb nn B : Nat} {N : List ByteArray} {g : Gs} {PA VA : Option Addr} {Pc Vc : Nat} {its : List IB} {vts : List It} {w w' : World}
theorem GenAt.lt (h : GenAt gb mb nn B N g PA Pc VA Vc its vts w) : gb < w.heap.size := (Array.getElem?_eq_some_iff.1 h.cell).1
theorem GenAt.own1 (h : GenAt gb mb nn B N g PA Pc VA Vc its vts w) : ∀ k, ownA PA = some k → gb < k ∧ k < w.heap.size := fun k e => h.row.lt k (by rw [qaq]; exact e)
theorem GenAt.own2 (h : GenAt gb mb nn B N g PA Pc VA Vc its vts w) : ∀ k, ownA VA = some k → gb < k ∧ k < w.heap.size := fun k e => h.vrow.lt k (by rw [qaq]; exact e)
theorem GenAt.keep (h : GenAt gb mb nn B N g PA Pc VA Vc its vts w) (hs : w.heap.size ≤ w'.heap.size) (hk : ∀ k, k < w.heap.size → (k < B ∨ k = gb ∨ k = mb ∨ ownA PA = some k ∨ ownA VA = some k) → w'.heap[k]? = w.heap[k]?) : GenAt gb mb nn B N g PA Pc VA Vc its vts w' :=
 ⟨(hk gb h.lt (.inr (.inl rfl))).trans h.cell, h.set.keep (hk mb h.set.lt (.inr (.inr (.inl rfl)))),
  h.row.keep hs fun b hb hor => hk b hb (hor.imp id fun e => .inr (.inr (.inl (by rw [qaq] at e; exact e)))),
  qbb h.vrow hs (fun k e => by rw [qaq] at e; exact hk k (h.own2 k e).2 (.inr (.inr (.inr (.inr e))))) (fun b hb => False.elim hb), h.pairs, h.vars, h.leaf, h.apart⟩
theorem GenAt.below (h : GenAt gb mb nn B N g PA Pc VA Vc its vts w) (hb : Below w.heap.size w w') : GenAt gb mb nn B N g PA Pc VA Vc its vts w' :=
 h.keep hb.size fun k hk _ => hb.block k hk
end
structure OfAt (gb mb nn B : Nat) (N : List ByteArray) (g' : Gs) (r : Tm) (A : Option Addr) (c : Nat) (PA VA : Option Addr) (w : World) (PA' : Option Addr) (Pc' : Nat) (VA' : Option Addr) (Vc' : Nat) (its' : List IB) (vts' : List It) (w' : World) : Prop where
 gen : GenAt gb mb nn B N g' PA' Pc' VA' Vc' its' vts' w'
 rep : RepP w' (fun b => b < B ∨ (w.heap.size ≤ b ∧ b < w'.heap.size ∧ ownA PA' ≠ some b ∧ ownA VA' ≠ some b)) r A c
 bel : Below gb w w'
 old : ∀ k, k < w.heap.size → k ≠ gb → ownA PA ≠ some k → ownA VA ≠ some k → w'.heap[k]? = w.heap[k]?
 own1 : ∀ k, ownA PA' = some k → ownA PA = some k ∨ w.heap.size ≤ k
 own2 : ∀ k, ownA VA' = some k → ownA VA = some k ∨ w.heap.size ≤ k
 size : w.heap.size ≤ w'.heap.size
def Ofed (gb mb nn B : Nat) (N : List ByteArray) (q : Tm × Gs) (PA VA : Option Addr) (w : World) (e : Ending) (w' : World) : Prop :=
 ∃ A c PA' Pc' VA' Vc' its' vts', e = .returned (q.1.val A c) ∧ OfAt gb mb nn B N q.2 q.1 A c PA VA w PA' Pc' VA' Vc' its' vts' w'
structure OAt (gb mb nn B : Nat) (N : List ByteArray) (g : Gs) (PA0 VA0 : Option Addr) (w : World) (o1 o2 : Obj) (PA : Option Addr) (Pc : Nat) (VA : Option Addr) (Vc : Nat) (its : List IB) (vts : List It) (Z : World) : Prop where
 gen : GenAt gb mb nn B N g PA Pc VA Vc its vts Z
 b1 : Z.heap[w.heap.size]? = some o1
 b2 : Z.heap[w.heap.size + 1]? = some o2
 b3 : Z.heap[w.heap.size + 1 + 1]? = some (.cells #[.int .i64 0, .string ⟨#[]⟩, .int .i64 0, .slice none 0 0] 24 (0, 0))
 bel : Below gb w Z
 old : ∀ k, k < w.heap.size → k ≠ gb → ownA PA0 ≠ some k → ownA VA0 ≠ some k → Z.heap[k]? = w.heap[k]?
 own1 : ∀ k, ownA PA = some k → ownA PA0 = some k ∨ w.heap.size + 3 ≤ k
 own2 : ∀ k, ownA VA = some k → ownA VA0 = some k ∨ w.heap.size + 3 ≤ k
section
variable {gb mb nn B : Nat} {N : List ByteArray} {g : Gs} {PA0 VA0 PA VA : Option Addr} {Pc Vc : Nat} {its : List IB} {vts : List It} {w Z Z' : World} {o1 o2 : Obj}
theorem OAt.lt (h : OAt gb mb nn B N g PA0 VA0 w o1 o2 PA Pc VA Vc its vts Z) : w.heap.size + 3 ≤ Z.heap.size := (Array.getElem?_eq_some_iff.1 h.b3).1
theorem OAt.go (h : OAt gb mb nn B N g PA0 VA0 w o1 o2 PA Pc VA Vc its vts Z) (hb : Below Z.heap.size Z Z') : OAt gb mb nn B N g PA0 VA0 w o1 o2 PA Pc VA Vc its vts Z' := by
 have hl := h.lt;exact ⟨h.gen.below hb, (hb.block _ (by omega)).trans h.b1, (hb.block _ (by omega)).trans h.b2, (hb.block _ (by omega)).trans h.b3, h.bel.trans (hb.mono (Nat.le_of_lt h.gen.lt)),
  fun k hk h1 h2 h3 => (hb.block k (by omega)).trans (h.old k hk h1 h2 h3), h.own1, h.own2⟩
theorem OAt.give (h : OAt gb mb nn B N g PA0 VA0 w o1 o2 PA Pc VA Vc its vts Z) (hB : B ≤ w.heap.size) (hg : gb < w.heap.size) (hmb : mb < gb) (hw1 : ∀ k, ownA PA0 = some k → k < w.heap.size) (hw2 : ∀ k, ownA VA0 = some k → k < w.heap.size) {r : Tm} {A : Option Addr} {c : Nat}
  (hr : RepP Z (fun b => b < B ∨ (w.heap.size + 3 ≤ b ∧ b < Z.heap.size ∧ ownA PA ≠ some b ∧ ownA VA ≠ some b)) r A c) :
  OfAt gb mb nn B N g r A c PA0 VA0 w PA Pc VA Vc its vts ((((Z.setCell ⟨w.heap.size + 1 + 1, 0, none⟩ (.int .i64 r.kind)).setCell ⟨w.heap.size + 1 + 1, 1, none⟩ (.string r.name)).setCell ⟨w.heap.size + 1 + 1, 2, none⟩ (.int .i64 r.sort)).setCell ⟨w.heap.size + 1 + 1, 3, none⟩ (.slice A r.kids.length c)) := by
 have hl := h.lt;obtain ⟨Y, hY⟩ : ∃ Y, Y = (((Z.setCell ⟨w.heap.size + 1 + 1, 0, none⟩ (.int .i64 r.kind)).setCell ⟨w.heap.size + 1 + 1, 1, none⟩ (.string r.name)).setCell ⟨w.heap.size + 1 + 1, 2, none⟩ (.int .i64 r.sort)).setCell ⟨w.heap.size + 1 + 1, 3, none⟩ (.slice A r.kids.length c) := ⟨_, rfl⟩;have ho : ∀ k, k ≠ w.heap.size + 1 + 1 → Y.heap[k]? = Z.heap[k]? := fun k hk => by rw [hY]; iterate 4 rw [Below.heap_setCell _ _ _ _ hk]
 have hsz : Y.heap.size = Z.heap.size := by rw [hY]; simp [World.setCell]
 have hbel : Below gb w Y := by
  rw [hY]
  iterate 4 refine Below.setCell ?_ (by show gb ≤ w.heap.size + 1 + 1; omega) _
  exact h.bel
 rw [← hY];have n1 : ∀ k, ownA PA = some k → k ≠ w.heap.size + 1 + 1 := fun k e => by rcases h.own1 k e with h1 | h1; have := hw1 k h1; omega; omega
 have n2 : ∀ k, ownA VA = some k → k ≠ w.heap.size + 1 + 1 := fun k e => by rcases h.own2 k e with h1 | h1; have := hw2 k h1; omega; omega
 refine ⟨h.gen.keep (by omega) (fun k hk hor => ho k ?_), ?_, hbel, fun k hk h1 h2 h3 => (ho k (by omega)).trans (h.old k hk h1 h2 h3), fun k e => (h.own1 k e).imp id (fun h => by omega), fun k e => (h.own2 k e).imp id (fun h => by omega), by omega⟩
 ·rcases hor with h | h | h | h | h
  ·omega
  ·omega
  ·omega
  ·exact n1 k h
  ·exact n2 k h
 ·refine RepP.mono ?_ ?_ _ _ _ hr
  ·rintro b (h | ⟨h1, h2, h3, h4⟩)
   ·exact .inl h
   ·exact .inr ⟨by omega, by omega, h3, h4⟩
  ·intro p hp;exact World.cell?_of_block (ho p.block (by rcases hp with h | ⟨h1, -⟩ <;> omega))
end
end Go.Proofs.YtpjmdilpldaapaaGreatDoor
namespace Go.Proofs.YtpjmdilpldaapaaGreatDoor
section
variable {P : Program} {ops : Array Oper} {Q : Exit → Act → World → Prop} {md : Region.Mode} {S S2 : World → Prop} {wk : List Nat} {R : Nat → World → Prop}
def qgb (P : Program) (md : Region.Mode) (ops : Array Oper) (Q : Exit → Act → World → Prop) (R : Nat → World → Prop) : Nat → Array Bool → Act → World → Prop
 | 0, listed, a, w => Region.ready md ops listed = [] ∧ Q .normal a w
 | fuel + 1, listed, a, w =>
  (Region.ready md ops listed = [] → Q .normal a w) ∧
  ∀ i ∈ Region.ready md ops listed, wpOp P ops Q i (fun a' w' => R i w' ∧ qgb P md ops Q R fuel (listed.setIfInBounds i true) a' w') a w
theorem qg7 : ∀ (fuel : Nat) (listed : Array Bool) (a : Act) (w : World), qgb P md ops Q R fuel listed a w → wpAny P md ops Q fuel listed a w
 | 0, _, _, _, h => h
 | fuel + 1, _, _, _, h => ⟨h.1, fun i hi => wpOp_mono (fun a' w' h' => qg7 fuel _ a' w' h'.2) (h.2 i hi)⟩
theorem qko {l0 l : Array Bool} {j : Nat} (h : ∀ k, l0.getD k true = true → l.getD k true = true) : ∀ k, l0.getD k true = true → (l.setIfInBounds j true).getD k true = true := by
 intro k hk;by_cases hjk : j = k
 ·subst hjk;simp only [Array.getD_eq_getD_getElem?, Array.getElem?_setIfInBounds];rw [if_pos trivial]
  split <;> rfl
 ·rw [getD_set_ne true hjk]; exact h k hk
theorem qiy {S' : World → Prop} {i : Nat} {oi : Oper} {v : Value} (hi : ops[i]? = some oi) (hsel : ∀ (j : Nat) (o : Oper) cs b, ops[j]? = some o → o.op ≠ .select cs b) (l0 : Array Bool)
  (hS' : ∀ (listed : Array Bool) (j : Nat) (w : World), (∀ k, l0.getD k true = true → listed.getD k true = true) → listed.getD i true = false → j ∈ Region.ready md ops listed → j ≠ i → R j w → S' w) (hSS : ∀ w, S' w → R i w)
  (hQ : ∀ c a w, Q (.panic c) (a.put oi.dst v) w → Q (.panic c) a w) :
  ∀ (fuel : Nat) (listed : Array Bool) (a : Act) (w : World), (∀ k, l0.getD k true = true → listed.getD k true = true) →
   (∀ j oj, ops[j]? = some oj → j ≠ i → listed.getD j true = false → (∀ e ∈ oj.after, Region.binds md e = true → e.on ≠ i) → oi.apart ops oj = true) →
   i ∈ Region.ready md ops listed → YieldsIf P ops S' oi v a → S' w →
   qgb P md ops Q R fuel (listed.setIfInBounds i true) (a.put oi.dst v) w → qgb P md ops Q R (fuel + 1) listed a w := by
 intro fuel
 induction fuel with
 | zero =>
  intro listed a w _ _ hr hy hS H;refine ⟨fun h => (by rw [h] at hr; cases hr), fun j hj => ?_⟩;by_cases hji : j = i
  ·subst hji; exact hy.wpOp hi hS ⟨hSS w hS, H⟩
  ·have := ready_mono hj hji;rw [H.1] at this;cases this
 | succ fuel ih =>
  intro listed a w hsub hfree hr hy hS H;have hun := (mem_ready.1 hr).1;refine ⟨fun h => (by rw [h] at hr; cases hr), fun j hj => ?_⟩;by_cases hji : j = i
  ·subst hji; exact hy.wpOp hi hS ⟨hSS w hS, H⟩
  ·have h1 := H.2 j (ready_mono hj hji);obtain ⟨hjun, oj, hoj, hall⟩ := mem_ready.1 hj;have hnot : ∀ e ∈ oj.after, Region.binds md e = true → e.on ≠ i := fun e he hb heq => by
    have h1 := hall e he hb;rw [heq, getD_both hun] at h1;cases h1
   have h2 := wpOp_putIf hoj (hfree j oj hoj hji hjun hnot) (fun cs b => hsel i oi cs b hi) (fun cs b => hsel j oj cs b hoj) hQ hy h1;have hfree' : ∀ k ok, ops[k]? = some ok → k ≠ i → (listed.setIfInBounds j true).getD k true = false →
     (∀ e ∈ ok.after, Region.binds md e = true → e.on ≠ i) → oi.apart ops ok = true := fun k ok hk hki hu hno => by
    refine hfree k ok hk hki ?_ hno;by_cases hjk : j = k
    ·subst hjk; exact hjun
    ·rw [getD_set_ne true hjk] at hu; exact hu
   refine wpOp_mono (fun a' w' h3 => ⟨h3.2.1, ih (listed.setIfInBounds j true) a' w' (qko hsub) hfree' (ready_mono hr (Ne.symm hji)) h3.1 (hS' listed j w' hsub hun hj hji h3.2.1) ?_⟩) h2;rw [Array.setIfInBounds_comm _ _ hji];exact h3.2.2
def askR (S S2 : World → Prop) (wk : List Nat) (j : Nat) (w : World) : Prop := (wk.contains j = false → S w) ∧ S2 w
def qa3 (P : Program) (ops : Array Oper) (Q : Exit → Act → World → Prop) (S S2 : World → Prop) (wk : List Nat) : Mx3 → Act → World → Prop
 | .nil, a, w => Q .normal a w
 | .held i r, a, w | .pure i r, a, w => askR S S2 wk i w ∧ ∃ o v, ops[i]? = some o ∧ YieldsIf P ops (askR S S2 wk i) o v a ∧ (∀ c a' w', Q (.panic c) (a'.put o.dst v) w' → Q (.panic c) a' w') ∧ qa3 P ops Q S S2 wk r (a.put o.dst v) w
 | .op i r, a, w => wpOp P ops Q i (fun a' w' => askR S S2 wk i w' ∧ qa3 P ops Q S S2 wk r a' w') a w
 | .two i j r r', a, w => wpOp P ops Q i (fun a' w' => askR S S2 wk i w' ∧ qa3 P ops Q S S2 wk r a' w') a w ∧ wpOp P ops Q j (fun a' w' => askR S S2 wk j w' ∧ qa3 P ops Q S S2 wk r' a' w') a w
 | .three i j k r r' r'', a, w => wpOp P ops Q i (fun a' w' => askR S S2 wk i w' ∧ qa3 P ops Q S S2 wk r a' w') a w ∧ wpOp P ops Q j (fun a' w' => askR S S2 wk j w' ∧ qa3 P ops Q S S2 wk r' a' w') a w ∧ wpOp P ops Q k (fun a' w' => askR S S2 wk k w' ∧ qa3 P ops Q S S2 wk r'' a' w') a w
def wkB (md : Region.Mode) (ops : Array Oper) (wk : List Nat) (listed : Array Bool) (i : Nat) : Bool := wk.contains i || (wk.all fun j => listed.getD j true || Region.waitsFor md ops j i)
def qep (md : Region.Mode) (ops : Array Oper) (wk : List Nat) : Mx3 → Array Bool → Bool
 | .nil, listed => (Region.ready md ops listed).isEmpty
 | .held i r, listed | .pure i r, listed => (Region.ready md ops listed).contains i && Region.free md ops listed i && wkB md ops wk listed i && qep md ops wk r (listed.setIfInBounds i true)
 | .op i r, listed => decide (Region.ready md ops listed = [i]) && qep md ops wk r (listed.setIfInBounds i true)
 | .two i j r r', listed => decide (Region.ready md ops listed = [i, j]) && decide (r.len = r'.len) && qep md ops wk r (listed.setIfInBounds i true) && qep md ops wk r' (listed.setIfInBounds j true)
 | .three i j k r r' r'', listed => decide (Region.ready md ops listed = [i, j, k]) && decide (r.len = r'.len) && decide (r.len = r''.len) && qep md ops wk r (listed.setIfInBounds i true) && qep md ops wk r' (listed.setIfInBounds j true) && qep md ops wk r'' (listed.setIfInBounds k true)
def mixOk4 (md : Region.Mode) (ops : Array Oper) (wk : List Nat) (order : Mx3) : Bool :=
 Region.noSelect ops && decide (order.len = ops.size) && qep md ops wk order (Array.replicate ops.size false)
theorem qdy (hsel : Region.noSelect ops = true) {i : Nat} {o : Oper} {v : Value} {listed : Array Bool} {a : Act} {w : World} {fuel : Nat} (hr : (Region.ready md ops listed).contains i = true) (hf : Region.free md ops listed i = true) (hwk : wkB md ops wk listed i = true) (hS : askR S S2 wk i w) (ho : ops[i]? = some o)
  (hy : YieldsIf P ops (askR S S2 wk i) o v a) (hQ : ∀ c a' w', Q (.panic c) (a'.put o.dst v) w' → Q (.panic c) a' w') (h : qgb P md ops Q (askR S S2 wk) fuel (listed.setIfInBounds i true) (a.put o.dst v) w) : qgb P md ops Q (askR S S2 wk) (fuel + 1) listed a w := by
 refine qiy ho (Region.noSelect_spec hsel) listed (fun l j w hsub hun hj hji hR => ⟨fun hi => hR.1 ?_, hR.2⟩) (fun _ h => h) hQ fuel listed a w (fun _ h => h) (Region.free_spec ho hf) (by simpa using hr) hy hS h;unfold wkB at hwk;rw [hi, Bool.false_or, List.all_eq_true] at hwk
 cases hc : wk.contains j with
 | false => rfl
 | true =>
  exfalso;obtain ⟨hjun, oj, hoj, hall⟩ := mem_ready.1 hj;have h1 := hwk j (by simpa using hc);rw [Bool.or_eq_true] at h1;rcases h1 with h1 | h1
  ·rw [hsub j h1] at hjun; cases hjun
  ·obtain ⟨o', ho', e, he, hbi, hon⟩ := Region.waitsFor_spec h1;have : o' = oj := Option.some.inj (ho'.symm.trans hoj);subst this;have h2 := hall e he hbi;rw [hon, getD_both hun] at h2;cases h2
theorem qa5 (hsel : Region.noSelect ops = true) :
  ∀ (order : Mx3) (listed : Array Bool) (a : Act) (w : World), qep md ops wk order listed = true → qa3 P ops Q S S2 wk order a w → qgb P md ops Q (askR S S2 wk) order.len listed a w
 | .nil, listed, a, w, hB, h => ⟨by simpa [qep] using hB, h⟩
 | .held i r, listed, a, w, hB, h => by
  simp only [qep, Bool.and_eq_true] at hB;obtain ⟨⟨⟨hr, hf⟩, hwk⟩, hB2⟩ := hB;obtain ⟨hS, o, v, ho, hy, hQ, hrest⟩ := h;exact qdy hsel hr hf hwk hS ho hy hQ (qa5 hsel r _ _ _ hB2 hrest)
 | .pure i r, listed, a, w, hB, h => by
  simp only [qep, Bool.and_eq_true] at hB;obtain ⟨⟨⟨hr, hf⟩, hwk⟩, hB2⟩ := hB;obtain ⟨hS, o, v, ho, hy, hQ, hrest⟩ := h;exact qdy hsel hr hf hwk hS ho hy hQ (qa5 hsel r _ _ _ hB2 hrest)
 | .op i r, listed, a, w, hB, h => by
  simp only [qep, Bool.and_eq_true, decide_eq_true_eq] at hB;refine ⟨fun h0 => (by rw [hB.1] at h0; cases h0), fun j hj => ?_⟩;rw [hB.1] at hj;obtain rfl : j = i := by simpa using hj
  exact wpOp_mono (fun a' w' h' => ⟨h'.1, qa5 hsel r _ a' w' hB.2 h'.2⟩) h
 | .two i k r r', listed, a, w, hB, h => by
  simp only [qep, Bool.and_eq_true, decide_eq_true_eq] at hB;obtain ⟨⟨⟨hr, hlen⟩, hB1⟩, hB2⟩ := hB;refine ⟨fun h0 => (by rw [hr] at h0; cases h0), fun j hj => ?_⟩;rw [hr] at hj;simp only [List.mem_cons, List.not_mem_nil, or_false] at hj;rcases hj with rfl | rfl
  ·exact wpOp_mono (fun a' w' h' => ⟨h'.1, qa5 hsel r _ a' w' hB1 h'.2⟩) h.1
  ·exact wpOp_mono (fun a' w' h' => ⟨h'.1, by rw [hlen]; exact qa5 hsel r' _ a' w' hB2 h'.2⟩) h.2
 | .three i k m r r' r'', listed, a, w, hB, h => by
  simp only [qep, Bool.and_eq_true, decide_eq_true_eq] at hB;obtain ⟨⟨⟨⟨⟨hr, hlen⟩, hlen2⟩, hB1⟩, hB2⟩, hB3⟩ := hB;refine ⟨fun h0 => (by rw [hr] at h0; cases h0), fun j hj => ?_⟩;rw [hr] at hj;simp only [List.mem_cons, List.not_mem_nil, or_false] at hj;rcases hj with rfl | rfl | rfl
  ·exact wpOp_mono (fun a' w' h' => ⟨h'.1, qa5 hsel r _ a' w' hB1 h'.2⟩) h.1
  ·exact wpOp_mono (fun a' w' h' => ⟨h'.1, by rw [hlen]; exact qa5 hsel r' _ a' w' hB2 h'.2⟩) h.2.1
  ·exact wpOp_mono (fun a' w' h' => ⟨h'.1, by rw [hlen2]; exact qa5 hsel r'' _ a' w' hB3 h'.2⟩) h.2.2
theorem qal {id : Nat} {Q : Exit → Act → World → Prop} {a : Act} {w : World} {l : List Oper} (S S2 : World → Prop) (wk : List Nat) (order : Mx3) (hm : P.follows .mixedOrders = true)
  (hB : mixOk4 .any l.toArray wk order = true) (h : qa3 P l.toArray Q S S2 wk order a w.drew) : (Code.region id l.toArray true).wp P Q a w := by
 simp only [mixOk4, Bool.and_eq_true, decide_eq_true_eq] at hB;obtain ⟨⟨hsel, hlen⟩, hB⟩ := hB;refine wp_region_any hm ?_;have := qg7 _ _ _ _ (qa5 (md := .any) hsel order _ a w.drew hB h);rw [hlen] at this;exact this
theorem qap {a : Act} {w : World} (h : Q .normal a w) : qa3 P ops Q S S2 wk .nil a w := h
theorem qaa {i : Nat} {r : Mx3} {a : Act} {w : World} {o : Oper} {v : Value} (ho : ops[i]? = some o) (hg : o.guard = none) (hw : wk.contains i = false) (hQ : ∀ c a' w', Q (.panic c) (a'.put o.dst v) w' → Q (.panic c) a' w')
  (hS : S w) (hS2 : S2 w) (hv : ∀ w, S w → S2 w → (execOp a.eval o).run P w = .ok (.value v) w) (h : qa3 P ops Q S S2 wk r (a.put o.dst v) w) : qa3 P ops Q S S2 wk (.held i r) a w :=
 ⟨⟨fun _ => hS, hS2⟩, o, v, ho, Or.inl ⟨by simp [Region.wanted, hg], fun w h => hv w (h.1 hw) h.2⟩, hQ, h⟩
theorem qaz {i : Nat} {r : Mx3} {a : Act} {w : World} {o : Oper} {v : Value} (ho : ops[i]? = some o) (hg : o.guard = none) (hw : wk.contains i = true) (hQ : ∀ c a' w', Q (.panic c) (a'.put o.dst v) w' → Q (.panic c) a' w')
  (hS2 : S2 w) (hv : ∀ w, S2 w → (execOp a.eval o).run P w = .ok (.value v) w) (h : qa3 P ops Q S S2 wk r (a.put o.dst v) w) : qa3 P ops Q S S2 wk (.held i r) a w :=
 ⟨⟨fun e => absurd (hw.symm.trans e) (by decide), hS2⟩, o, v, ho, Or.inl ⟨by simp [Region.wanted, hg], fun w h => hv w h.2⟩, hQ, h⟩
theorem qab {i : Nat} {r : Mx3} {a : Act} {w : World} {o : Oper} (ho : ops[i]? = some o) (hg : o.guard = none)
  (h : ∀ K : Act → World → Prop, (∀ a' w', askR S S2 wk i w' ∧ qa3 P ops Q S S2 wk r a' w' → K a' w') → o.wp P a w K Q) : qa3 P ops Q S S2 wk (.op i r) a w := by
 show wpOp P ops Q i _ a w;unfold wpOp;simp only [ho, Region.wanted, hg, if_true];exact .inl (h _ fun a' w' h => h)
theorem qbg {i j : Nat} {r r' : Mx3} {a : Act} {w : World} (h : qa3 P ops Q S S2 wk (.op i r) a w) (h' : qa3 P ops Q S S2 wk (.op j r') a w) : qa3 P ops Q S S2 wk (.two i j r r') a w := ⟨h, h'⟩
theorem mix4_three {i j k : Nat} {r r' r'' : Mx3} {a : Act} {w : World} (h : qa3 P ops Q S S2 wk (.op i r) a w) (h' : qa3 P ops Q S S2 wk (.op j r') a w) (h'' : qa3 P ops Q S S2 wk (.op k r'') a w) : qa3 P ops Q S S2 wk (.three i j k r r' r'') a w := ⟨h, h', h''⟩
theorem qbm {i : Nat} {r : Mx3} {a : Act} {w : World} {o : Oper} (ho : ops[i]? = some o) (hw : Region.wanted o (yielded ops a.tmps) = true)
  (h : ∀ K : Act → World → Prop, (∀ a' w', askR S S2 wk i w' ∧ qa3 P ops Q S S2 wk r a' w' → K a' w') → o.wp P a w K Q) : qa3 P ops Q S S2 wk (.op i r) a w := by
 show wpOp P ops Q i _ a w;unfold wpOp;simp only [ho, hw, if_true];exact .inl (h _ fun a' w' h => h)
end
end Go.Proofs.YtpjmdilpldaapaaGreatDoor
namespace Go.Proofs.YtpjmdilpldaapaaGreatDoor
open Go.RowKit Go.Sort
theorem qc0 {t u : Tm} : ∀ (ps : List Bd) (vs : List Tm) (n : Int), vs.length = ps.length → FoundP (fun b : Bd => decide (b.1 = t) && decide (b.2 = u)) ps n →
  (n < 0 ∧ lookG t u ps vs = none) ∨ ∃ (i : Nat) (h : i < vs.length), n = i ∧ lookG t u ps vs = some vs[i]
 | [], vs, n, _, h => by
  rcases h with ⟨h, -⟩ | ⟨i, -, hi, -⟩
  ·exact .inl ⟨h, by rw [lookG]; simp⟩
  ·exact absurd hi (Nat.not_lt_zero i)
 | p :: ps, [], n, hl, _ => by simp at hl
 | p :: ps, v :: vs, n, hl, h => by
  rw [lookG];by_cases e : p.1 = t ∧ p.2 = u
  ·rw [if_pos e];have hp : (decide (p.1 = t) && decide (p.2 = u)) = true := by simp [e.1, e.2]
   rcases h with ⟨-, h⟩ | ⟨i, h1, hi, h2, h3⟩
   ·have h9 : (decide (p.1 = t) && decide (p.2 = u)) = false := h p (List.mem_cons_self ..);rw [hp] at h9; cases h9
   ·cases i with
    | zero => exact .inr ⟨0, by simp, h1, rfl⟩
    | succ i =>
     have h9 : (decide (p.1 = t) && decide (p.2 = u)) = false := h3 0 (by simp) (by omega);rw [hp] at h9; cases h9
  ·rw [if_neg e];rcases h with ⟨h, h2⟩ | ⟨i, h1, hi, h2, h3⟩
   ·rcases qc0 ps vs n (by simpa using hl) (.inl ⟨h, fun b hb => h2 b (List.mem_cons_of_mem _ hb)⟩) with h | ⟨j, hj, h4, -⟩
    ·exact .inl h
    ·omega
   ·cases i with
    | zero =>
     have h2 : (decide (p.1 = t) && decide (p.2 = u)) = true := h2;rw [Bool.and_eq_true, decide_eq_true_iff, decide_eq_true_iff] at h2;exact absurd h2 e
    | succ i =>
     rcases qc0 ps vs (i : Int) (by simpa using hl) (.inr ⟨i, rfl, by simpa using hi, h2, fun j hj hji => h3 (j + 1) (by simpa using hj) (by omega)⟩) with ⟨h, -⟩ | ⟨j, hj, h4, h5⟩
     ·omega
     ·have hji : j = i := by omega
      subst hji;exact .inr ⟨j + 1, by simpa using hj, by rw [h1], by rw [h5]; rfl⟩
theorem qh5 {t u : Tm} (ht : t.valid = 0) (hu : u.valid = 0) (hne : t ≠ u) (h : qa1 t u = true) : 0 < t.kids.length := by
 obtain ⟨k1, k2, hn, hl⟩ := qa0.1 h;rcases Nat.eq_zero_or_pos t.kids.length with h0 | h0
 ·exfalso;apply hne;have s1 := qcw ht k1;have s2 := qcw hu k2;obtain ⟨a1, a2, a3, a4⟩ := t;obtain ⟨c1, c2, c3, c4⟩ := u;simp only [Tm.kind, Tm.name, Tm.sort, Tm.kids] at k1 k2 hn hl h0 s1 s2;have e1 := List.eq_nil_of_length_eq_zero h0;have e2 := List.eq_nil_of_length_eq_zero (hl.symm.trans h0);rw [k1, k2, hn, s1, s2, e1, e2]
 ·exact h0
theorem qhp {W : World} {B : Nat} {a b c d x y : Value} {T : TypeId} (h : W.heap[B]? = some (.cells #[a, b, c, d] T (0, 0))) : ((W.setCell ⟨B, 2, none⟩ x).setCell ⟨B, 3, none⟩ y).heap[B]? = some (.cells #[a, b, x, y] T (0, 0)) := by
 simp [World.setCell, Array.getElem?_modify, h]
section
variable {gb mb nn B : Nat} {N : List ByteArray} {g : Gs} {PA0 VA0 PA VA : Option Addr} {Pc Vc : Nat} {its : List IB} {vts : List It} {w Z Z' : World} {o1 o2 : Obj}
theorem OAt.freshed (h : OAt gb mb nn B N g PA0 VA0 w o1 o2 PA Pc VA Vc its vts Z) (hB : B ≤ mb) (hmb : mb < gb) (hgw : gb < w.heap.size) {m : Nat} (hf : Freshed gb mb nn N (.slice PA its.length Pc) (.slice VA vts.length Vc) m Z Z') :
  OAt gb mb nn B N { g with next := m } PA0 VA0 w o1 o2 PA Pc VA Vc its vts Z' := by
 have hl := h.lt;have hgl := h.gen.lt;refine ⟨⟨hf.cell, h.gen.set.keep (hf.old mb (by omega) (by omega)), h.gen.row.keep hf.size (fun b hb hor => hf.old b hb ?_), qbb h.gen.vrow hf.size (fun k e => by rw [qaq] at e; have := h.gen.own2 k e; exact hf.old k this.2 (by omega)) (fun b hb => False.elim hb), h.gen.pairs, h.gen.vars, h.gen.leaf, h.gen.apart⟩,
  (hf.old _ (by omega) (by omega)).trans h.b1, (hf.old _ (by omega) (by omega)).trans h.b2, (hf.old _ (by omega) (by omega)).trans h.b3, h.bel.trans hf.bel, fun k hk h1 h2 h3 => (hf.old k (by omega) h1).trans (h.old k hk h1 h2 h3), h.own1, h.own2⟩
 rcases hor with h1 | h1
 ·omega
 ·rw [qaq] at h1; have := h.gen.own1 b h1; omega
structure Grown2 (gb B : Nat) (PA VA : Option Addr) (D : World) (PA' : Option Addr) (Pc' : Nat) (VA' : Option Addr) (Vc' : Nat) (its' : List IB) (vts' : List It) (W : World) : Prop where
 same : ∀ k, k < D.heap.size → ownA PA ≠ some k → ownA VA ≠ some k → W.heap[k]? = D.heap[k]?
 size : D.heap.size ≤ W.heap.size
 bel : Below gb D W
 row : RowG 53 W (gb + 1) (fun b => b < B) (.slice PA' its'.length Pc') its'
 vrow : RowT W (gb + 1) (fun _ => False) (.slice VA' vts'.length Vc') vts'
 own1 : ∀ k, ownA PA' = some k → ownA PA = some k ∨ D.heap.size ≤ k
 own2 : ∀ k, ownA VA' = some k → ownA VA = some k ∨ D.heap.size ≤ k
 apart : ∀ k, ownA PA' = some k → ownA VA' ≠ some k
theorem Grown2.alloc {PA' VA' : Option Addr} {Pc' Vc' : Nat} {its' : List IB} {vts' : List It} {D W W' : World} (h : Grown2 gb B PA VA D PA' Pc' VA' Vc' its' vts' W) (hg : gb < D.heap.size) (hb : Below W.heap.size W W') : Grown2 gb B PA VA D PA' Pc' VA' Vc' its' vts' W' :=
 ⟨fun k hk h1 h2 => (hb.block k (by have := h.size; omega)).trans (h.same k hk h1 h2), Nat.le_trans h.size hb.size, h.bel.trans (hb.mono (by have := h.size; omega)), h.row.below hb,
  qbb h.vrow hb.size (fun k e => hb.block k (h.vrow.lt k e).2) (fun b hb => False.elim hb), h.own1, h.own2, h.apart⟩
theorem OAt.grown {D W : World} (h : OAt gb mb nn B N g PA0 VA0 w o1 o2 PA Pc VA Vc its vts D) (hB : B ≤ mb) (hmb : mb < gb) (hgw : gb < w.heap.size) (hw1 : ∀ k, ownA PA0 = some k → k < w.heap.size) (hw2 : ∀ k, ownA VA0 = some k → k < w.heap.size)
  {PA' VA' : Option Addr} {Pc' Vc' : Nat} {its' : List IB} {vts' : List It} (hG : Grown2 gb B PA VA D PA' Pc' VA' Vc' its' vts' W) {g' : Gs} (hn : g'.next = g.next) (hp : its'.map IB.bd = g'.pairs) (hv : vts'.map (·.1) = g'.vars) (hlf : ∀ x ∈ vts', x.1.kids = []) :
  OAt gb mb nn B N g' PA0 VA0 w o1 o2 PA' Pc' VA' Vc' its' vts' ((W.setCell ⟨gb, 2, none⟩ (.slice PA' its'.length Pc')).setCell ⟨gb, 3, none⟩ (.slice VA' vts'.length Vc')) := by
 have hl := h.lt;have hgl := h.gen.lt;have n1 : ∀ k, ownA PA = some k → k ≠ gb ∧ k ≠ mb ∧ k ≠ w.heap.size ∧ k ≠ w.heap.size + 1 ∧ k ≠ w.heap.size + 1 + 1 := fun k e => by
  have h1 := h.gen.own1 k e;rcases h.own1 k e with h2 | h2
  ·have := hw1 k h2; omega
  ·omega
 have n2 : ∀ k, ownA VA = some k → k ≠ gb ∧ k ≠ mb ∧ k ≠ w.heap.size ∧ k ≠ w.heap.size + 1 ∧ k ≠ w.heap.size + 1 + 1 := fun k e => by
  have h1 := h.gen.own2 k e;rcases h.own2 k e with h2 | h2
  ·have := hw2 k h2; omega
  ·omega
 obtain ⟨Y, hY⟩ : ∃ Y, Y = (W.setCell ⟨gb, 2, none⟩ (.slice PA' its'.length Pc')).setCell ⟨gb, 3, none⟩ (.slice VA' vts'.length Vc') := ⟨_, rfl⟩;have ho : ∀ k, k ≠ gb → Y.heap[k]? = W.heap[k]? := fun k hk => by rw [hY, Below.heap_setCell _ _ _ _ hk, Below.heap_setCell _ _ _ _ hk]
 have hsz : Y.heap.size = W.heap.size := by rw [hY]; simp [World.setCell]
 have hbY : Below gb w Y := by
  rw [hY];refine Below.setCell (Below.setCell (h.bel.trans hG.bel) (by exact Nat.le_refl gb) _) (by exact Nat.le_refl gb) _
 have same : ∀ k, k < D.heap.size → k ≠ gb → ownA PA ≠ some k → ownA VA ≠ some k → Y.heap[k]? = D.heap[k]? := fun k hk h1 h2 h3 => (ho k h1).trans (hG.same k hk h2 h3);have hc : Y.heap[gb]? = some (qju mb g'.next (.slice PA' its'.length Pc') (.slice VA' vts'.length Vc')) := by
  rw [hY, hn];exact qhp ((hG.same gb hgl (fun e => (n1 gb e).1 rfl) (fun e => (n2 gb e).1 rfl)).trans h.gen.cell)
 rw [← hY];refine ⟨⟨hc, h.gen.set.keep (same mb (by omega) (by omega) (fun e => (n1 mb e).2.1 rfl) (fun e => (n2 mb e).2.1 rfl)), hG.row.keep (by omega) (fun b hb hor => ho b ?_), qbb hG.vrow (by omega) (fun k e => ho k (by have := (hG.vrow.lt k e).1; omega)) (fun b hb => False.elim hb), hp, hv, hlf, hG.apart⟩,
  (same _ (by omega) (by omega) (fun e => (n1 _ e).2.2.1 rfl) (fun e => (n2 _ e).2.2.1 rfl)).trans h.b1, (same _ (by omega) (by omega) (fun e => (n1 _ e).2.2.2.1 rfl) (fun e => (n2 _ e).2.2.2.1 rfl)).trans h.b2, (same _ (by omega) (by omega) (fun e => (n1 _ e).2.2.2.2 rfl) (fun e => (n2 _ e).2.2.2.2 rfl)).trans h.b3, hbY, fun k hk h1 h2 h3 => ?_, fun k e => ?_, fun k e => ?_⟩
 ·rcases hor with h1 | h1
  ·omega
  ·have := (hG.row.lt b h1).1; omega
 ·refine (same k (by omega) h1 (fun e => ?_) (fun e => ?_)).trans (h.old k hk h1 h2 h3)
  ·rcases h.own1 k e with h4 | h4
   ·exact h2 h4
   ·omega
  ·rcases h.own2 k e with h4 | h4
   ·exact h3 h4
   ·omega
 ·rcases hG.own1 k e with h1 | h1
  ·exact h.own1 k h1
  ·exact .inr (by omega)
 ·rcases hG.own2 k e with h1 | h1
  ·exact h.own2 k h1
  ·exact .inr (by omega)
end
section
variable {gb mb nn B : Nat} {PA VA PA1 VA1 : Option Addr} {Pc1 Vc1 : Nat} {its1 : List IB} {vts1 : List It} {D W : World}
theorem Grown2.push1 (h : Grown2 gb B PA VA D PA1 Pc1 VA1 Vc1 its1 vts1 W) (hg : gb < D.heap.size) (hB : B ≤ gb) (X : IB) (pb : Nat) (hz : W.heap[pb]? = some (.cells (bCells [X]).toArray 53 (0, 0)))
  (h1 : RepP W (fun b => b < B) X.1.1 X.1.2.1 X.1.2.2) (h2 : RepP W (fun b => b < B) X.2.1 X.2.2.1 X.2.2.2) (hlen : its1.length + 1 ≤ 100000000) :
  ∃ g9 c9 W', (∀ ty, (Builtin.append_ #[54, 54] ty #[.slice PA1 its1.length Pc1, .slice (some ⟨pb, 0, none⟩) 1 1]).run Tryz.prog W = .ok (.slice (some ⟨g9, 0, none⟩) (its1.length + 1) c9) W') ∧
   Grown2 gb B PA VA D (some ⟨g9, 0, none⟩) c9 VA1 Vc1 (its1 ++ [X]) vts1 W' ∧ (∀ k, k < W.heap.size → ownA PA1 ≠ some k → W'.heap[k]? = W.heap[k]?) ∧ W.heap.size ≤ W'.heap.size := by
 have hsz := h.size;have lift : ∀ (t : Tm) A c, RepP W (fun b => b < B) t A c → RepP W (fun b => b < B ∧ b < W.heap.size ∧ (Value.slice PA1 its1.length Pc1).ownBlock ≠ some b) t A c := fun t A c hr =>
  RepP.mono (fun b (hb : b < B) => ⟨hb, by omega, fun e => by have := (h.row.lt b e).1; omega⟩) (fun _ _ => rfl) _ _ _ hr
 obtain ⟨g9, c9, W', hap, hrow9, hgr9, hown9⟩ := h.row.more qf8 (by omega) [X] (by simp) pb 0 1 (fun j v hj => by rw [Nat.zero_add, cell_of_row W pb j _ _ _ hz]; simpa using hj) (fun y hy => by rw [List.mem_singleton] at hy; subst hy; exact ⟨lift _ _ _ h1, lift _ _ _ h2⟩) hlen;rw [qaq] at hgr9 hown9;have hk : ∀ k, k < W.heap.size → ownA PA1 ≠ some k → W'.heap[k]? = W.heap[k]? := fun k hk hne => hgr9.block k hk (fun e => hne e.symm);have hs9 := hgr9.size;refine ⟨g9, c9, W', hap, ⟨fun k hk1 e1 e2 => (hk k (by omega) (fun e => ?_)).trans (h.same k hk1 e1 e2), by omega, ?_, by rw [List.length_append]; exact hrow9, qbb h.vrow hs9 (fun k e => ?_) (fun b hb => False.elim hb), fun k e => ?_, h.own2, fun k e e2 => ?_⟩, hk, hs9⟩
 ·rcases h.own1 k e with h3 | h3
  ·exact e1 h3
  ·omega
 ·exact h.bel.grown hgr9 (by omega) (fun j e => by have := h.row.lt j (by rw [qaq]; exact e); omega)
 ·have hl := (h.vrow.lt k e).2;rw [qaq] at e;exact hk k hl (fun e3 => h.apart k e3 e)
 ·have e : some g9 = some k := e;injection e with e;subst e;rcases hown9 with h3 | h3
  ·exact h.own1 _ h3
  ·exact .inr (by omega)
 ·have e : some g9 = some k := e;injection e with e;subst e;have hl := (h.vrow.lt g9 (by rw [qaq]; exact e2)).2;rcases hown9 with h3 | h3
  ·exact h.apart _ h3 e2
  ·omega
theorem qi8 {w : World} {base : Nat} {v : Value} {its : List It} (hrow : RowT w base (fun _ => False) v its) (hbase : base ≤ w.heap.size) (x : Tm) (hxk : x.kids = []) (hxn : x.name.size ≤ maxLen) (pb : Nat) (hz : w.heap[pb]? = some (boxT x none 0)) (hlen : its.length + 1 ≤ 100000000) :
  ∃ g cap w', (∀ ty, (Builtin.append_ #[22, 22] ty #[v, .slice (some ⟨pb, 0, none⟩) 1 1]).run Tryz.prog w = .ok (.slice (some ⟨g, 0, none⟩) (its.length + 1) cap) w') ∧
   RowT w' base (fun _ => False) (.slice (some ⟨g, 0, none⟩) (its.length + 1) cap) (its ++ [(x, none, 0)]) ∧ w.grownBy w' v.ownBlock ∧ (v.ownBlock = some g ∨ g = w.heap.size) := by
 obtain ⟨d0, d1, d2, d3, -⟩ := qam x (hz);obtain ⟨i0, hi0, hz0, hz1, hz2⟩ := info_parts qca;obtain ⟨g, cap, w', h1, h2, h3, h4, h5⟩ := run_append_lies (P := Tryz.prog) w 22 0 base 24 i0 _ 4 56 Tryz.underlying22 hi0 hz0 hz1 hz2 rfl (by omega) v its.length (itCells its) hrow.own ⟨pb, 0, none⟩ 1 1 (itCells [(x, none, 0)]) (qa6 _)
  (fun j u hj => by
   have e : w.cell? ⟨pb, 0 + j, none⟩ = some u := by
    simp only [itCells, Tm.cells, List.append_nil] at hj;rw [Nat.zero_add]
    match j, hj with
    | 0, hj => simp at hj; subst hj; exact d0
    | 1, hj => simp at hj; subst hj; exact d1
    | 2, hj => simp at hj; subst hj; exact d2
    | 3, hj => simp at hj; subst hj; exact d3
   unfold Addr.add
   split
   ·rename_i hj0; subst hj0; simpa using e
   ·exact e) (qbo _) (by omega) (by unfold maxLen; omega) (by omega) hbase w.heap.size rfl
 refine ⟨g, cap, w', fun ty => h1, ⟨by rw [qbn, List.length_append]; exact h2, fun y hy => ?_⟩, h3, h4⟩;have leaf : ∀ (P : Nat → Prop) (y : Tm) (Y : Option Addr) (c : Nat), RepP w (fun b => False ∧ b < w.heap.size ∧ v.ownBlock ≠ some b) y Y c → RepP w' P y Y c := fun P y Y c h => RepP.mono (fun b hb => False.elim hb.1) (fun p hp => False.elim hp.1) _ _ _ h;rcases List.mem_append.1 hy with hy | hy
 ·exact leaf _ _ _ _ (hrow.reps y hy)
 ·rw [List.mem_singleton] at hy; subst hy;obtain ⟨a1, a2, a3, a4⟩ := x;have hxk : a4 = [] := hxk;subst hxk;rw [qa7];exact ⟨hxn, Nat.le_refl _, Nat.zero_le _, .inl rfl⟩
theorem Grown2.push2 (h : Grown2 gb B PA VA D PA1 Pc1 VA1 Vc1 its1 vts1 W) (hg : gb < D.heap.size) (hB : B ≤ gb) (x : Tm) (hx : x.kids = []) (hxn : x.name.size ≤ maxLen) (pb : Nat) (hz : W.heap[pb]? = some (boxT x none 0)) (hlen : vts1.length + 1 ≤ 100000000) :
  ∃ g9 c9 W', (∀ ty, (Builtin.append_ #[22, 22] ty #[.slice VA1 vts1.length Vc1, .slice (some ⟨pb, 0, none⟩) 1 1]).run Tryz.prog W = .ok (.slice (some ⟨g9, 0, none⟩) (vts1.length + 1) c9) W') ∧
   Grown2 gb B PA VA D PA1 Pc1 (some ⟨g9, 0, none⟩) c9 its1 (vts1 ++ [(x, none, 0)]) W' ∧ (∀ k, k < W.heap.size → ownA VA1 ≠ some k → W'.heap[k]? = W.heap[k]?) ∧ W.heap.size ≤ W'.heap.size := by
 have hsz := h.size;obtain ⟨g9, c9, W', hap, hrow9, hgr9, hg9⟩ := qi8 h.vrow (by omega) x hx hxn pb hz hlen;rw [qaq] at hgr9 hg9;have hk : ∀ k, k < W.heap.size → ownA VA1 ≠ some k → W'.heap[k]? = W.heap[k]? := fun k hk hne => hgr9.block k hk (fun e => hne e.symm);have hs9 := hgr9.size;refine ⟨g9, c9, W', hap, ⟨fun k hk1 e1 e2 => (hk k (by omega) (fun e => ?_)).trans (h.same k hk1 e1 e2), by omega, ?_, h.row.keep hs9 (fun b hb hor => ?_), by rw [List.length_append]; exact hrow9, h.own1, fun k e => ?_, fun k e e2 => ?_⟩, hk, hs9⟩
 ·rcases h.own2 k e with h3 | h3
  ·exact e2 h3
  ·omega
 ·exact h.bel.grown hgr9 (by omega) (fun j e => by have := h.vrow.lt j (by rw [qaq]; exact e); omega)
 ·refine hk b hb (fun e => ?_);rcases hor with h3 | h3
  ·have := (h.vrow.lt b (by rw [qaq]; exact e)).1; omega
  ·rw [qaq] at h3; exact h.apart b h3 e
 ·have e : some g9 = some k := e;injection e with e;subst e;rcases hg9 with h3 | h3
  ·exact h.own2 _ h3
  ·exact .inr (by omega)
 ·have e2 : some g9 = some k := e2;injection e2 with e2;subst e2;have hl := (h.row.lt g9 (by rw [qaq]; exact e)).2;rcases hg9 with h3 | h3
  ·exact h.apart _ e h3
  ·omega
end
section
variable {gb mb nn B : Nat} {N : List ByteArray} {g g' : Gs} {PA0 VA0 PA VA PA' VA' : Option Addr} {Pc Vc Pc' Vc' : Nat} {its its' : List IB} {vts vts' : List It} {w Z Z' : World} {o1 o2 : Obj}
theorem OAt.call (h : OAt gb mb nn B N g PA0 VA0 w o1 o2 PA Pc VA Vc its vts Z) (hgw : gb < w.heap.size) (hw1 : ∀ k, ownA PA0 = some k → k < w.heap.size) (hw2 : ∀ k, ownA VA0 = some k → k < w.heap.size) {r : Tm} {A : Option Addr} {c : Nat}
  (hf : OfAt gb mb nn B N g' r A c PA VA Z PA' Pc' VA' Vc' its' vts' Z') : OAt gb mb nn B N g' PA0 VA0 w o1 o2 PA' Pc' VA' Vc' its' vts' Z' := by
 have hl := h.lt;have n1 : ∀ k, k < w.heap.size + 3 → w.heap.size ≤ k → ownA PA ≠ some k ∧ ownA VA ≠ some k := fun k h1 h2 => ⟨fun e => by
  rcases h.own1 k e with h3 | h3
  ·have := hw1 k h3; omega
  ·omega, fun e => by
  rcases h.own2 k e with h3 | h3
  ·have := hw2 k h3; omega
  ·omega⟩
 have st : ∀ k, k < w.heap.size + 3 → w.heap.size ≤ k → Z'.heap[k]? = Z.heap[k]? := fun k h1 h2 => hf.old k (by omega) (by omega) (n1 k h1 h2).1 (n1 k h1 h2).2;refine ⟨hf.gen, (st _ (by omega) (by omega)).trans h.b1, (st _ (by omega) (by omega)).trans h.b2, (st _ (by omega) (by omega)).trans h.b3, h.bel.trans hf.bel, fun k hk h1 h2 h3 => (hf.old k (by omega) h1 (fun e => ?_) (fun e => ?_)).trans (h.old k hk h1 h2 h3), fun k e => ?_, fun k e => ?_⟩
 ·rcases h.own1 k e with h4 | h4
  ·exact h2 h4
  ·omega
 ·rcases h.own2 k e with h4 | h4
  ·exact h3 h4
  ·omega
 ·rcases hf.own1 k e with h4 | h4
  ·exact h.own1 k h4
  ·exact .inr (by omega)
 ·rcases hf.own2 k e with h4 | h4
  ·exact h.own2 k h4
  ·exact .inr (by omega)
theorem OAt.write (h : OAt gb mb nn B N g PA0 VA0 w o1 o2 PA Pc VA Vc its vts Z) (hgw : gb < w.heap.size) (hmb : mb < gb) (hB : B ≤ mb) {p : Addr} (v : Value) (hp : w.heap.size + 3 ≤ p.block) (h1 : ownA PA ≠ some p.block) (h2 : ownA VA ≠ some p.block) :
  OAt gb mb nn B N g PA0 VA0 w o1 o2 PA Pc VA Vc its vts (Z.setCell p v) := by
 have hk : ∀ k, k ≠ p.block → (Z.setCell p v).heap[k]? = Z.heap[k]? := fun k hk => Below.heap_setCell _ _ _ _ hk;refine ⟨h.gen.keep (by simp [World.setCell]) (fun k _ hor => hk k ?_), (hk _ (by omega)).trans h.b1, (hk _ (by omega)).trans h.b2, (hk _ (by omega)).trans h.b3, h.bel.setCell (by omega) _, fun k hk' e1 e2 e3 => (hk k (by omega)).trans (h.old k hk' e1 e2 e3), h.own1, h.own2⟩;rcases hor with h3 | h3 | h3 | h3 | h3
 ·omega
 ·omega
 ·omega
 ·exact fun e => h1 (by rw [← e]; exact h3)
 ·exact fun e => h2 (by rw [← e]; exact h3)
theorem qho {W : World} {b : Nat} {a1 a2 a3 a4 x : Value} {T : TypeId} (h : W.heap[b]? = some (.cells #[a1, a2, a3, a4] T (0, 0))) : (W.setCell ⟨b, 3, none⟩ x).heap[b]? = some (.cells #[a1, a2, a3, x] T (0, 0)) := by
 simp [World.setCell, Array.getElem?_modify, h]
theorem OAt.box1 {a1 a2 a3 a4 : Value} {T : TypeId} (h : OAt gb mb nn B N g PA0 VA0 w (.cells #[a1, a2, a3, a4] T (0, 0)) o2 PA Pc VA Vc its vts Z) (hgw : gb < w.heap.size) (hmb : mb < gb) (hB : B ≤ mb) (hw1 : ∀ k, ownA PA0 = some k → k < w.heap.size) (hw2 : ∀ k, ownA VA0 = some k → k < w.heap.size) (v : Value) :
  OAt gb mb nn B N g PA0 VA0 w (.cells #[a1, a2, a3, v] T (0, 0)) o2 PA Pc VA Vc its vts (Z.setCell ⟨w.heap.size, 3, none⟩ v) := by
 have hk : ∀ k, k ≠ w.heap.size → (Z.setCell ⟨w.heap.size, 3, none⟩ v).heap[k]? = Z.heap[k]? := fun k hk => Below.heap_setCell _ _ _ _ hk;refine ⟨h.gen.keep (by simp [World.setCell]) (fun k _ hor => hk k ?_), qho h.b1, (hk _ (by omega)).trans h.b2, (hk _ (by omega)).trans h.b3, h.bel.setCell (by show gb ≤ w.heap.size; omega) _, fun k hk' e1 e2 e3 => (hk k (by omega)).trans (h.old k hk' e1 e2 e3), h.own1, h.own2⟩;rcases hor with h3 | h3 | h3 | h3 | h3
 ·omega
 ·omega
 ·omega
 ·rcases h.own1 k h3 with h4 | h4
  ·have := hw1 k h4; omega
  ·omega
 ·rcases h.own2 k h3 with h4 | h4
  ·have := hw2 k h4; omega
  ·omega
def KidF (B base : Nat) (PA VA : Option Addr) (b : Nat) : Prop := b < B ∨ (base ≤ b ∧ ownA PA ≠ some b ∧ ownA VA ≠ some b)
theorem rowT_call {base k n cap : Nat} {cur : List It} (hr : RowT Z base (KidF B base PA VA) (.slice (some ⟨k, 0, none⟩) n cap) cur) {r : Tm} {A : Option Addr} {c : Nat} (hf : OfAt gb mb nn B N g' r A c PA VA Z PA' Pc' VA' Vc' its' vts' Z')
  (hg : gb < base) (hB : B ≤ gb) (h1 : ownA PA ≠ some k) (h2 : ownA VA ≠ some k) (hP : ∀ b, ownA PA = some b → gb < b) (hV : ∀ b, ownA VA = some b → gb < b) : RowT Z' base (KidF B base PA' VA') (.slice (some ⟨k, 0, none⟩) n cap) cur := by
 have hk := hr.lt k rfl;refine qbb hr hf.size (fun b e => ?_) (fun b hb hlt _ => ?_)
 ·have e : some k = some b := e;injection e with e;subst e;exact hf.old _ hk.2 (by omega) h1 h2
 ·rcases hb with hb | ⟨hb, e1, e2⟩
  ·exact ⟨.inl hb, hf.old b hlt (by omega) (fun e => by have := hP b e; omega) (fun e => by have := hV b e; omega)⟩
  ·refine ⟨.inr ⟨hb, fun e => ?_, fun e => ?_⟩, hf.old b hlt (by omega) e1 e2⟩
   ·rcases hf.own1 b e with h3 | h3
    ·exact e1 h3
    ·omega
   ·rcases hf.own2 b e with h3 | h3
    ·exact e2 h3
    ·omega
theorem qjp (N : List ByteArray) {l m : List Tm} (g : Gs) (hl : l.length = m.length) (i : Nat) (hi : i < l.length) :
  Tm.gens N (l.take (i + 1)) (m.take (i + 1)) g = ((Tm.gens N (l.take i) (m.take i) g).1 ++ [(l[i].gen N (m[i]'(by omega)) (Tm.gens N (l.take i) (m.take i) g).2).1], (l[i].gen N (m[i]'(by omega)) (Tm.gens N (l.take i) (m.take i) g).2).2) := by
 rw [List.take_succ_eq_append_getElem hi, List.take_succ_eq_append_getElem (show i < m.length by omega), qgt _ _ _ _ _ _ (by simp; omega)]
theorem qd5 : ∀ (l : List Tm) (i : Nat) (h : i < l.length), Tm.sizes (l.take i) + l[i].size ≤ Tm.sizes l
 | t :: l, 0, _ => by simp [Tm.sizes]
 | t :: l, i + 1, h => by
  rw [List.take_succ_cons, Tm.sizes, Tm.sizes];have := qd5 l i (by simpa using h);simp only [List.getElem_cons_succ];omega
theorem take_set {α : Type} (l : List α) (i : Nat) (h : i < l.length) (x : α) : (l.set i x).take (i + 1) = l.take i ++ [x] := by
 rw [List.take_succ_eq_append_getElem (by simpa using h), List.getElem_set_self, List.take_set_of_le (Nat.le_refl _)]
end
theorem RowT.toS2 {w : World} {base : Nat} {F P : Nat → Prop} {v : Value} {its : List It} (h : RowT w base F v its) (hF : ∀ b, F b → b < w.heap.size → v.ownBlock ≠ Option.some b → P b) (hP : ∀ b, v.ownBlock = Option.some b → P b) :
  ∃ A cap, v = .slice A its.length cap ∧ RepS w P (its.map (·.1)) A cap := by
 rcases h.own.2 with ⟨rfl, h0⟩ | ⟨g, cap, cur, rfl, hb, hg, hnc, hcm, r⟩
 ·have : its = [] := List.eq_nil_of_length_eq_zero h0;subst this;exact ⟨none, 0, rfl, by simp, by simp [maxLen], .inl rfl⟩
 ·refine ⟨Option.some ⟨g, 0, none⟩, cap, rfl, by simpa using hnc, hcm, .inr ⟨g, 0, rfl, hP g rfl, ?_⟩⟩;refine qao.of_its its g 0 (fun j u hj => ?_) (fun x hx => ?_)
  ·have := h.own.cells (g := g) rfl j u hj;simpa [Addr.add] using (by
    unfold Addr.add at this
    split at this <;> simp_all)
  ·exact RepP.mono (fun b ⟨h1, h2, h3⟩ => hF b h1 h2 h3) (fun _ _ => rfl) _ _ _ (h.reps x hx)
end Go.Proofs.YtpjmdilpldaapaaGreatDoor
