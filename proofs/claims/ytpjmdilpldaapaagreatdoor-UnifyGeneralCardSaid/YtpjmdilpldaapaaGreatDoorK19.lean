/- Umatch (joined by shake.py). -/
import Derived.Test.YtpjmdilpldaapaaGreatDoorK6
import Derived.Test.YtpjmdilpldaapaaGreatDoorK11
import Derived.Test.YtpjmdilpldaapaaGreatDoorK12
set_option maxRecDepth 100000
namespace Go.Proofs.YtpjmdilpldaapaaGreatDoor
open Go.RowKit Go.Sort Go.Maps
theorem var_extU {y z : Tm} (hy : y.kind = 1 ∧ y.kids = []) (hz : z.kind = 1 ∧ z.kids = []) (hn : y.name = z.name) (hs : y.sort = z.sort) : y = z := by
 obtain ⟨a1, a2, a3, a4⟩ := y;obtain ⟨b1, b2, b3, b4⟩ := z;obtain ⟨e1, e2⟩ := hy;obtain ⟨e3, e4⟩ := hz;simp only [Tm.kind, Tm.name, Tm.sort, Tm.kids] at e1 e2 e3 e4 hn hs;rw [e1, e2, e3, e4, hn, hs]
theorem qh8 {w w' : World} {o : Oper} {a : Act} {K : Act → World → Prop} {Q : Exit → Act → World → Prop} {m k x : Value} (_hgd : o.guard = none) (t : TypeId) (om ok ox : Operand)
  (ho : o.op = .mapUpdate t om ok ox) (hm : a.eval om = m) (hk : a.eval ok = k) (hx : a.eval ox = x) (hrun : (Instr.mapUpdate t m k x).run Tryz.prog w = .ok () w') (h : K (a.put o.dst undef) w') : Oper.wp Tryz.prog o a w K Q := by
 unfold Oper.wp;simp [execOp, ho, hm, hk, hx, hrun, Result.andThen];exact h
theorem hasS_snoc (s : List Bd) (x t y : Tm) : hasS (s ++ [(x, t)]) y = (hasS s y || decide (x = y)) := by
 rw [Bool.eq_iff_iff, Bool.or_eq_true, qcm, qcm, decide_eq_true_iff];simp only [List.mem_append, List.mem_singleton];constructor
 ·rintro ⟨b, hb | rfl, e⟩
  ·exact .inl ⟨b, hb, e⟩
  ·exact .inr e
 ·rintro (⟨b, hb, e⟩ | e)
  ·exact ⟨b, .inl hb, e⟩
  ·exact ⟨(x, t), .inr rfl, e⟩
theorem qjm {s : List Bd} {x t y : Tm} (h : x ≠ y) : getS (s ++ [(x, t)]) y = getS s y := by
 induction s with
 | nil => simp [getS, h]
 | cons b r ih =>
  rw [List.cons_append, getS, getS]
  split
  ·rfl
  ·exact ih
theorem MapT.store {w : World} {b n : Nat} {G : Nat → Prop} {s : List Bd} (h : MapT w b n G s) (hn : n < maxLen) {x : Tm} (k1 : x.kind = 1) (k2 : x.kids = []) (k3 : qbl x) (hno : hasS s x = false) {t : Tm} {A : Option Addr} {c : Nat} (hr : RepP w G t A c) (hG : ∀ k, G k → k < w.heap.size ∧ k ≠ b) :
  ∃ w', (Instr.mapUpdate 62 (.map (some b)) (keyV x) (t.val A c)).run Tryz.prog w = .ok () w' ∧ MapT w' b (n + 1) G (s ++ [(x, t)]) ∧ w.mapTurned w' b := by
 obtain ⟨F, h1, h2⟩ := h;obtain ⟨w', hrun, hI, ht⟩ := h1.store hn k3 (t.val A c);have keep : ∀ (u : Tm) (U : Option Addr) (cu : Nat), RepP w G u U cu → RepP w' G u U cu := fun u U cu hu => RepP.mono (fun _ h => h) (fun p hp => World.cell?_of_block (ht.grown.block p.block (hG _ hp).1 (fun e => by injection e with e; exact (hG _ hp).2 e))) _ _ _ hu;refine ⟨w', hrun, ⟨_, hI, fun y q1 q2 q3 => ?_⟩, ht⟩;have he : (x = y) ↔ (y.name = x.name ∧ y.sort = x.sort) := ⟨fun e => by rw [e]; exact ⟨rfl, rfl⟩, fun e => var_extU ⟨k1, k2⟩ ⟨q1, q2⟩ e.1.symm e.2.symm⟩;rw [hasS_snoc];by_cases e : x = y
 ·right;rw [if_pos (he.1 e)];refine ⟨by simp [e], A, c, ?_, ?_⟩
  ·rw [← e, qfl (by rw [hno]; simp)]
  ·rw [← e, qfl (by rw [hno]; simp)]; exact keep _ _ _ hr
 ·rw [if_neg (fun g => e (he.2 g)), qjm e];rcases h2 y q1 q2 q3 with ⟨g1, g2⟩ | ⟨g1, A', c', g2, g3⟩
  ·exact .inl ⟨by rw [g1]; simp [e], g2⟩
  ·exact .inr ⟨by rw [g1]; rfl, A', c', g2, keep _ _ _ g3⟩
def qkx (mb B : Nat) (r : List Bd × Bool) (N : Nat) (w : World) (e : Ending) (w' : World) : Prop :=
 e = .returned (.bool r.2) ∧ ∃ nn, nn ≤ N ∧ MapT w' mb nn (fun b => b < B) r.1 ∧ Below mb w w' ∧ ∀ k, k < w.heap.size → k ≠ mb → w'.heap[k]? = w.heap[k]?
structure MAt (mb B nn : Nat) (m : List Bd) (w : World) (o1 o2 : Obj) (Z : World) : Prop where
 map : MapT Z mb nn (fun b => b < B) m
 b1 : Z.heap[w.heap.size]? = some o1
 b2 : Z.heap[w.heap.size + 1]? = some o2
 bel : Below mb w Z
 old : ∀ k, k < w.heap.size → k ≠ mb → Z.heap[k]? = w.heap[k]?
section
variable {mb B nn nn' : Nat} {m m' : List Bd} {w Z Z' : World} {o1 o2 : Obj}
theorem MAt.lt (h : MAt mb B nn m w o1 o2 Z) : w.heap.size + 2 ≤ Z.heap.size := (Array.getElem?_eq_some_iff.1 h.b2).1
theorem MAt.go (h : MAt mb B nn m w o1 o2 Z) (hB : B ≤ mb) (hb : Below Z.heap.size Z Z') : MAt mb B nn m w o1 o2 Z' := by
 have hl := h.lt;have hm := h.map.lt;exact ⟨h.map.keep (hb.block _ hm) (fun p (hp : p.block < B) => hb.cell (by omega)), (hb.block _ (by omega)).trans h.b1, (hb.block _ (by omega)).trans h.b2, h.bel.trans (hb.mono (by omega)), fun k hk hne => (hb.block k (by omega)).trans (h.old k hk hne)⟩
theorem MAt.turn (h : MAt mb B nn m w o1 o2 Z) (hmw : mb < w.heap.size) (hm : MapT Z' mb nn' (fun b => b < B) m') (ht : Z.mapTurned Z' mb) : MAt mb B nn' m' w o1 o2 Z' := by
 have hl := h.lt;have hk : ∀ j, j < Z.heap.size → j ≠ mb → Z'.heap[j]? = Z.heap[j]? := fun j hj hne => ht.grown.block j hj (fun e => by injection e with e; exact hne e);exact ⟨hm, (hk _ (by omega) (by omega)).trans h.b1, (hk _ (by omega) (by omega)).trans h.b2, h.bel.grown ht.grown (by omega) (fun j e => by injection e with e; omega), fun k h1 h2 => (hk k (by omega) h2).trans (h.old k h1 h2)⟩
theorem MAt.call (h : MAt mb B nn m w o1 o2 Z) (hmw : mb < w.heap.size) (hm : MapT Z' mb nn' (fun b => b < B) m') (hb : Below mb Z Z') (ho : ∀ k, k < Z.heap.size → k ≠ mb → Z'.heap[k]? = Z.heap[k]?) : MAt mb B nn' m' w o1 o2 Z' := by
 have hl := h.lt;exact ⟨hm, (ho _ (by omega) (by omega)).trans h.b1, (ho _ (by omega) (by omega)).trans h.b2, h.bel.trans hb, fun k h1 h2 => (ho k (by omega) h2).trans (h.old k h1 h2)⟩
theorem MAt.done (h : MAt mb B nn m w o1 o2 Z) {r : List Bd × Bool} {N : Nat} (hr : r.1 = m) (hN : nn ≤ N) : qkx mb B r N w (.returned (.bool r.2)) Z := ⟨rfl, nn, hN, by rw [hr]; exact h.map, h.bel, h.old⟩
end
mutual
theorem qif : ∀ (p t : Tm) (m : List Bd), t.valid = 0 → (∀ b ∈ m, b.2.valid = 0) → ∀ b ∈ (p.mat t m).1, b.2.valid = 0
 | .mk k n s l, t, m, ht, hm, b, hb => by
  rw [Tm.mat] at hb
  split at hb
  ·split at hb
   ·exact hm b hb
   ·rcases List.mem_append.1 hb with h | h
    ·exact hm b h
    ·rw [List.mem_singleton] at h; rw [h]; exact ht
  ·split at hb
   ·exact qjg l t.kids m (fun x hx => qat ht hx) hm b hb
   ·exact hm b hb
theorem qjg : ∀ (l r : List Tm) (m : List Bd), (∀ x ∈ r, x.valid = 0) → (∀ b ∈ m, b.2.valid = 0) → ∀ b ∈ (Tm.mats l r m).1, b.2.valid = 0
 | [], r, m, hr, hm, b, hb => by
  cases r <;> (rw [Tm.mats] at hb; exact hm b hb; try simp)
 | p :: l, [], m, hr, hm, b, hb => by rw [Tm.mats] at hb; exact hm b hb; simp
 | p :: l, t :: r, m, hr, hm, b, hb => by
  rw [Tm.mats] at hb;have h1 := qif p t m (hr t (List.mem_cons_self ..)) hm
  split at hb
  ·exact qjg l r _ (fun x hx => hr x (List.mem_cons_of_mem _ hx)) h1 b hb
  ·exact h1 b hb
end
set_option maxHeartbeats 4000000 in
theorem ql0 (mb B : Nat) (hB : B ≤ mb) (p t : Tm) (P T : Option Addr) (cp ct : Nat) (m : List Bd) (nn : Nat) (w : World) (hk : p.kind = 1) (hvp : p.valid = 0) (hvt : t.valid = 0) (hnn : nn ≤ 1000000) (hms : ∀ b ∈ m, b.2.valid = 0) (hm : MapT w mb nn (fun b => b < B) m)
  (hrp : RepP w (fun b => b < B) p P cp) (hrt : RepP w (fun b => b < B) t T ct) :
  Calls Tryz.prog 45 #[p.val P cp, t.val T ct, .map (some mb)] w (qkx mb B (p.mat t m) (nn + 1) w) := by
 have mixed : Tryz.prog.follows .mixedOrders = true := by kernel_rfl
 obtain ⟨hkids, hkey⟩ := check_keyable (check_valid hvp) hk;have hmw := hm.lt;have sp := qah hvp;have stt := qah hvt;obtain ⟨V, hV⟩ : ∃ V, V = (w.alloc (boxT p P cp)).alloc (boxT t T ct) := ⟨_, rfl⟩;have h2 : Two w p t P T cp ct V := by rw [hV]; exact Two.new w p t P T cp ct
 have hM : MAt mb B nn m w (boxT p P cp) (boxT t T ct) V := ⟨hm.below h2.lay.below hmw (fun k hk => by omega), h2.one, h2.two, h2.lay.below.mono (by omega), fun k hk _ => h2.lay.below.block k hk⟩;have IV := qdi p P cp V;rw [show (p.kind == 1) = true by rw [beq_iff_eq]; exact hk] at IV;have IV := Lib.hid IV;have KE : Hid (∀ Z, Calls Tryz.prog 47 #[p.val P cp] Z fun e w' => e = .returned (keyV p) ∧ Lay Z.heap.size Z w') := Lib.hid fun Z => qii p P cp Z;have up : Hid (∀ (Z : World) (y : Tm) (Y : Option Addr) (cy : Nat), Below mb w Z → w.heap.size ≤ Z.heap.size → RepP w (fun b => b < B) y Y cy → RepT Z Z.heap.size y Y cy) := Lib.hid fun Z y Y cy hZ hs h => RepP.mono (fun b (hb : b < B) => by show b < _; omega) (fun p (hp : p.block < B) => hZ.cell (by omega)) _ _ _ h;obtain ⟨r, hr⟩ : ∃ r, r = p.mat t m := ⟨_, rfl⟩;rw [← hr];rw [mat_eq, if_pos hk] at hr
 have HR := Lib.hid hr; clear hr;have HKI : Hid (p.kind = 1 ∧ p.kids = [] ∧ qbl p) := ⟨hk, hkids, hkey⟩;obtain ⟨a0, a1, a2, a3, -⟩ := qad h2.one;obtain ⟨b0, b1, b2, b3, -⟩ := qad h2.two;have HM := Lib.hid hM;have HMS := Lib.hid hms;have HRP := Lib.hid hrp;have HRT := Lib.hid hrt;simp only [boxT] at hV;have HV := Lib.hid hV;clear hV h2 hM hm hms hrp hrt hk hkids hkey;simp only [Tm.val] at IV KE ⊢;go_enter Tryz.func45, Tryz.ntmps45
 go_wp2_with fail
 rw [← HV.out];go_wp2_with fail
 refine IV.out.mono ?_; clear IV a0 a1 a2 a3 b0 b1 b2 b3;rintro e w1 ⟨rfl, hl1⟩;have HM1 := Lib.hid (HM.out.go hB hl1.below); clear HM hl1;obtain ⟨a0, a1, a2, a3, -⟩ := qam p (HM1.out.b1);go_wp2_with fail
 refine (KE.out w1).mono ?_; clear a0 a1 a2 a3;rintro e w2 ⟨rfl, hl2⟩;have HM2 := Lib.hid (HM1.out.go hB hl2.below); clear HM1 hl2;have hlt2 := HM2.out.lt;rcases HM2.out.map.look HKI.out.1 HKI.out.2.1 HKI.out.2.2 with ⟨hh, hrun⟩ | ⟨A1, c1, hh, hr1, hrun⟩
 ·simp only [qh6] at hrun;have hr := HR.out.trans (if_neg (by rw [hh]; simp));have HR2 := Lib.hid hr; clear HR hr;obtain ⟨X, hX⟩ : ∃ X, X = w2.alloc (.cells #[.int .i64 0, .string ⟨#[]⟩, .int .i64 0, .slice none 0 0] 24) := ⟨_, rfl⟩;have hbX : Below w2.heap.size w2 X := by rw [hX]; exact qaf (Nat.le_refl _) _
  have HMX := Lib.hid ((HM2.out.go hB hbX).go (Z' := X.drew) hB (Below.refl _ _).drew);have hsX : X.drew.heap.size = w2.heap.size + 1 := by rw [hX]; exact World.size_alloc ..
  have HX := Lib.hid hX;clear hX hbX HM2;have HH := Lib.hid hh; clear hh;go_wp2_with (at_lookup; refine qbu rfl _ _ rfl rfl rfl hrun ?_)
  rw [← HX.out];clear HX hrun;refine qal (fun Y => ∀ p : Addr, p.block < X.drew.heap.size → p.block ≠ mb → Y.cell? p = X.drew.cell? p) (fun _ => True) [4] (.held 0 (.held 1 (.held 3 (.op 2 (.op 4 .nil))))) mixed (by kernel_rfl) ?_;generalize X.drew = D at *;have hltD := HMX.out.lt;obtain ⟨a0, a1, a2, a3, -⟩ := qam p (HMX.out.b1);obtain ⟨b0, b1, b2, b3, -⟩ := qam t (HMX.out.b2);refine qaa (v := .map (some mb)) rfl rfl rfl (fun _ _ _ h => h) (fun _ _ _ => rfl) trivial (fun Y hY _ => by (try simp only [Act.put]); go_simp) ?_;refine qaa (v := .agg #[.int .i64 p.kind, .string p.name, .int .i64 p.sort, .slice P p.kids.length cp]) rfl rfl rfl (fun _ _ _ h => h) (fun _ _ _ => rfl) trivial (fun Y hY _ => by
   have z0 := (hY ⟨w.heap.size, 0, none⟩ (by show w.heap.size < _; omega) (by show w.heap.size ≠ _; omega)).trans a0;have z1 := (hY ⟨w.heap.size, 1, none⟩ (by show w.heap.size < _; omega) (by show w.heap.size ≠ _; omega)).trans a1;have z2 := (hY ⟨w.heap.size, 2, none⟩ (by show w.heap.size < _; omega) (by show w.heap.size ≠ _; omega)).trans a2;have z3 := (hY ⟨w.heap.size, 3, none⟩ (by show w.heap.size < _; omega) (by show w.heap.size ≠ _; omega)).trans a3
   (try simp only [Act.put]); go_simp) ?_
  refine qaa (v := .agg #[.int .i64 t.kind, .string t.name, .int .i64 t.sort, .slice T t.kids.length ct]) rfl rfl rfl (fun _ _ _ h => h) (fun _ _ _ => rfl) trivial (fun Y hY _ => by
   have z0 := (hY ⟨w.heap.size + 1, 0, none⟩ (by show w.heap.size + 1 < _; omega) (by show w.heap.size + 1 ≠ _; omega)).trans b0;have z1 := (hY ⟨w.heap.size + 1, 1, none⟩ (by show w.heap.size + 1 < _; omega) (by show w.heap.size + 1 ≠ _; omega)).trans b1;have z2 := (hY ⟨w.heap.size + 1, 2, none⟩ (by show w.heap.size + 1 < _; omega) (by show w.heap.size + 1 ≠ _; omega)).trans b2;have z3 := (hY ⟨w.heap.size + 1, 3, none⟩ (by show w.heap.size + 1 < _; omega) (by show w.heap.size + 1 ≠ _; omega)).trans b3
   (try simp only [Act.put]); go_simp) ?_
  simp only [Act.put, List.setIfInBounds_toArray];clear a0 a1 a2 a3 b0 b1 b2 b3;refine qab rfl rfl (fun K hK => ?_);go_wp2_with fail
  refine (KE.out D).mono ?_; clear KE;rintro e w3 ⟨rfl, hl3⟩;refine hK _ _ ⟨⟨fun _ p hp _ => hl3.below.cell hp, trivial⟩, ?_⟩;clear hK K;have HM3 := Lib.hid (HMX.out.go hB hl3.below); clear HMX hl3;have hlt3 := HM3.out.lt;obtain ⟨N4, hrun4, hm4, ht4⟩ := HM3.out.map.store (by unfold maxLen; omega) HKI.out.1 HKI.out.2.1 HKI.out.2.2 HH.out (RepP.mono (fun _ h => h) (fun p (hp : p.block < B) => HM3.out.bel.cell (by omega)) _ _ _ HRT.out) (fun k hk => ⟨by omega, by omega⟩);have HM4 := Lib.hid (HM3.out.turn hmw hm4 ht4); clear HM3 hm4 ht4;simp only [Tm.val] at hrun4;refine qab rfl rfl (fun K hK => ?_);refine qh8 (by rfl) 62 (.tmp 23) (.tmp 25) (.tmp 26) (by rfl) (by rfl) (by rfl) (by rfl) hrun4 ?_;refine hK _ _ ⟨⟨fun h => absurd h (by decide), trivial⟩, qap ?_⟩;clear hK K hrun4;have hlt4 := HM4.out.lt
  obtain ⟨a0, a1, a2, a3, -⟩ := qam p (HM4.out.b1);obtain ⟨b0, b1, b2, b3, -⟩ := qam t (HM4.out.b2);have FI := qin p t P T cp ct N4 (by omega) (by omega) (up.out N4 _ _ _ HM4.out.bel (by omega) HRP.out) (up.out N4 _ _ _ HM4.out.bel (by omega) HRT.out);obtain ⟨q, hq⟩ : ∃ q, q = fits p t := ⟨_, rfl⟩;rw [← hq] at FI HR2;clear hq;simp only [Tm.val] at FI;have FI := Lib.hid FI;go_wp2_with fail
  refine FI.out.mono ?_; clear FI;rintro e w5 ⟨rfl, hl5⟩;go_wp2_with fail
  go_ret
  rw [HR2.out];exact (HM4.out.go hB hl5.below).done (r := (m ++ [(p, t)], q)) rfl (Nat.le_refl _)
 ·have hr := HR.out.trans (if_pos hh);have HR2 := Lib.hid hr; clear HR hr;have hus : (getS m p).size ≤ 1000000 := by
   obtain ⟨b, hb, e⟩ := qcm.1 hh;rcases qc2 p m with ⟨b', hb', e1, e2⟩ | ⟨e1, e2⟩
   ·rw [e2]; have := qah (HMS.out b' hb'); omega
   ·exact absurd e (e2 b hb)
  obtain ⟨u, hu⟩ : ∃ u, u = getS m p := ⟨_, rfl⟩;rw [← hu] at hr1 hrun HR2 hus;simp only [Tm.val] at hrun;obtain ⟨X, hX⟩ : ∃ X, X = w2.alloc (.cells #[.int .i64 u.kind, .string u.name, .int .i64 u.sort, .slice A1 u.kids.length c1] 24) := ⟨_, rfl⟩;have hbX : Below w2.heap.size w2 X := by rw [hX]; exact qaf (Nat.le_refl _) _
  have hux : X.heap[w2.heap.size]? = some (.cells #[.int .i64 u.kind, .string u.name, .int .i64 u.sort, .slice A1 u.kids.length c1] 24 (0, 0)) := by rw [hX]; exact heap_alloc_new _ _
  have HMX := Lib.hid (HM2.out.go hB hbX);have hsX : X.heap.size = w2.heap.size + 1 := by rw [hX]; simp
  obtain ⟨d0, d1, d2, d3, -⟩ := qad hux;obtain ⟨b0, b1, b2, b3, -⟩ := qam t (HMX.out.b2);have SM := qck u t A1 T c1 ct X hus (by omega) (RepP.mono (fun b (h : b < B) => by show b < _; omega) (fun p (hp : p.block < B) => hbX.cell (by omega)) _ _ _ hr1) (up.out X _ _ _ HMX.out.bel (by omega) HRT.out);obtain ⟨q, hq⟩ : ∃ q, q = decide (u = t) := ⟨_, rfl⟩;rw [← hq] at SM HR2;simp only [Tm.val] at SM;have SM := Lib.hid SM;rw [hX] at d0 d1 d2 d3 b0 b1 b2 b3;have HX := Lib.hid hX;clear hX hbX HM2 hq hu hh hr1 hus hux;go_wp2_with (at_lookup; refine qbu rfl _ _ rfl rfl rfl hrun ?_)
  rw [← HX.out];refine SM.out.mono ?_; clear SM d0 d1 d2 d3 b0 b1 b2 b3;rintro e w5 ⟨rfl, hl5⟩;go_wp2_with fail
  go_ret
  rw [HR2.out];exact (HMX.out.go hB hl5.below).done (r := (m, q)) rfl (Nat.le_succ _)
set_option maxHeartbeats 4000000 in
theorem ql1 (mb B : Nat) (hB : B ≤ mb) (n : Nat) : ∀ (p t : Tm) (P T : Option Addr) (cp ct : Nat) (m : List Bd) (nn : Nat) (w : World), p.size ≤ n → p.valid = 0 → t.valid = 0 → nn + p.size ≤ 1000000 → (∀ b ∈ m, b.2.valid = 0) → MapT w mb nn (fun b => b < B) m →
   RepP w (fun b => b < B) p P cp → RepP w (fun b => b < B) t T ct →
  Calls Tryz.prog 45 #[p.val P cp, t.val T ct, .map (some mb)] w (qkx mb B (p.mat t m) (nn + p.size) w) := by
 have mixed : Tryz.prog.follows .mixedOrders = true := by kernel_rfl
 induction n with
 | zero => intro p _ _ _ _ _ _ _ _ h; have := p.size_pos; omega
 | succ n ih =>
  intro p t P T cp ct m nn w hn hvp hvt hnn hms hm hrp hrt;by_cases hk : p.kind = 1
  ·have hs1 := p.size_pos;exact (ql0 mb B hB p t P T cp ct m nn w hk hvp hvt (by omega) hms hm hrp hrt).mono fun e w' ⟨h1, nn', h2, h3⟩ => ⟨h1, nn', by omega, h3⟩
  have hmw := hm.lt;have sp := qah hvp;have stt := qah hvt;have hs3 := size3 p;obtain ⟨V, hV⟩ : ∃ V, V = (w.alloc (boxT p P cp)).alloc (boxT t T ct) := ⟨_, rfl⟩;have h2 : Two w p t P T cp ct V := by rw [hV]; exact Two.new w p t P T cp ct
  have hM : MAt mb B nn m w (boxT p P cp) (boxT t T ct) V := ⟨hm.below h2.lay.below hmw (fun k hk => by omega), h2.one, h2.two, h2.lay.below.mono (by omega), fun k hk _ => h2.lay.below.block k hk⟩;have IV := qdi p P cp V;rw [show (p.kind == 1) = false by rw [beq_eq_false_iff_ne]; exact hk] at IV;have IV := Lib.hid IV;have up : Hid (∀ (Z : World) (y : Tm) (Y : Option Addr) (cy : Nat), Below mb w Z → w.heap.size ≤ Z.heap.size → RepP w (fun b => b < B) y Y cy → RepT Z Z.heap.size y Y cy) := Lib.hid fun Z y Y cy hZ hs h => RepP.mono (fun b (hb : b < B) => by show b < _; omega) (fun p (hp : p.block < B) => hZ.cell (by omega)) _ _ _ h
  have AL : Hid (∀ Z, Calls Tryz.prog 73 #[p.val P cp, t.val T ct] Z fun e w' => e = .returned (.bool (qa1 p t)) ∧ Lay Z.heap.size Z w') := Lib.hid fun Z => qgz p t P T cp ct Z (by have := qb6 p; omega) (by have := qb6 t; omega);have SM : Hid (∀ Z, Below mb w Z → w.heap.size ≤ Z.heap.size → Calls Tryz.prog 48 #[p.val P cp, t.val T ct] Z fun e w' => e = .returned (.bool (decide (p = t))) ∧ Lay Z.heap.size Z w') := Lib.hid fun Z hZ hs => qck p t P T cp ct Z (by omega) (by omega) (up.out Z _ _ _ hZ hs hrp) (up.out Z _ _ _ hZ hs hrt);obtain ⟨qk, hqk⟩ : ∃ q, q = qa1 p t := ⟨_, rfl⟩;rw [← hqk] at AL;obtain ⟨r, hr⟩ : ∃ r, r = p.mat t m := ⟨_, rfl⟩;rw [← hr];rw [mat_eq, if_neg hk] at hr;have HR := Lib.hid hr; clear hr;have HQK := Lib.hid hqk; clear hqk;obtain ⟨a0, a1, a2, a3, -⟩ := qad h2.one
  obtain ⟨b0, b1, b2, b3, -⟩ := qad h2.two;have HM := Lib.hid hM;have HMS := Lib.hid hms;have HRP := Lib.hid hrp;have HRT := Lib.hid hrt;have HVP := Lib.hid hvp;have HVT := Lib.hid hvt;have IH := Lib.hid ih;simp only [boxT] at hV;have HV := Lib.hid hV;clear hV h2 hM hm hms hrp hrt hk hvp hvt ih;simp only [Tm.val] at IV AL SM ⊢;go_enter Tryz.func45, Tryz.ntmps45
  go_wp2_with fail
  rw [← HV.out];go_wp2_with fail
  refine IV.out.mono ?_; clear IV a0 a1 a2 a3 b0 b1 b2 b3;rintro e w1 ⟨rfl, hl1⟩;have HM1 := Lib.hid (HM.out.go hB hl1.below); clear HM hl1;obtain ⟨a0, a1, a2, a3, -⟩ := qam p (HM1.out.b1);obtain ⟨b0, b1, b2, b3, -⟩ := qam t (HM1.out.b2);go_wp2_with fail
  refine (AL.out w1).mono ?_; clear AL a0 a1 a2 a3 b0 b1 b2 b3;rintro e w2 ⟨rfl, hl2⟩;have HM2 := Lib.hid (HM1.out.go hB hl2.below); clear HM1 hl2;have hlt2 := HM2.out.lt;obtain ⟨a0, a1, a2, a3, -⟩ := qam p (HM2.out.b1);obtain ⟨b0, b1, b2, b3, -⟩ := qam t (HM2.out.b2)
  cases qk with
  | false =>
   have HR2 := Lib.hid (HR.out.trans (if_neg (by rw [← HQK.out]; simp))); clear HR HQK IH;have SM2 := SM.out w2 HM2.out.bel (by omega);obtain ⟨q, hq⟩ : ∃ q, q = decide (p = t) := ⟨_, rfl⟩;rw [← hq] at SM2 HR2;have SM2 := Lib.hid SM2;clear hq SM;go_wp2_with fail
   refine SM2.out.mono ?_; clear SM2;rintro e w5 ⟨rfl, hl5⟩;go_wp2_with fail
   go_ret
   rw [HR2.out];exact (HM2.out.go hB hl5.below).done (r := (m, q)) rfl (by omega)
  | true =>
  have HR2 := Lib.hid (HR.out.trans (if_pos HQK.out.symm)); clear HR SM;have hkl := (qa0.1 HQK.out.symm).2.2.2;have HKL := Lib.hid hkl; clear hkl HQK;have hkt := qb6 p;go_wp2_with fail
  clear a0 a1 a2 a3 b0 b1 b2 b3;go_loopw [40] (fun a wr => ∃ (i : Nat) (mi : List Bd) (ni : Nat), a = .int .i64 i ∧ i ≤ p.kids.length ∧ ni ≤ nn + Tm.sizes (p.kids.take i) ∧ Hid (Tm.mats p.kids t.kids m = Tm.mats (p.kids.drop i) (t.kids.drop i) mi) ∧ Hid (∀ b ∈ mi, b.2.valid = 0) ∧ Hid (MAt mb B ni mi w (boxT p P cp) (boxT t T ct) wr)) (fun a _ => p.kids.length - (intOf a).toNat)
  case atStart => exact ⟨0, m, nn, rfl, Nat.zero_le _, by simp [Tm.sizes], rfl, HMS.out, HM2.out⟩
  case round =>
   clear HM2 HMS hlt2;obtain ⟨i, mi, ni, rfl, hi, hni, HE, HMS, HM⟩ := hrel;by_cases hlt : i < p.kids.length
   ·have hiu : i < t.kids.length := by have := HKL.out; omega
    rcases (qih HRP.out).2.2.2 with h | ⟨pb, poff, hP, hpB, hpl⟩
    ·rw [h] at hlt; simp at hlt
    rcases (qih HRT.out).2.2.2 with h | ⟨tb, toff, hT, htB, htl⟩
    ·rw [h] at hiu; simp at hiu
    subst hP hT;have HMD : Hid (MAt mb B ni mi w (boxT p (some ⟨pb, poff, none⟩) cp) (boxT t (some ⟨tb, toff, none⟩) ct) wr.drew) := HM.out.go hB (Below.refl _ _).drew;have hlD : w.heap.size + 2 ≤ wr.drew.heap.size := HMD.out.lt;have i1 : (0 : Int) ≤ (i : Int) := Int.natCast_nonneg _;have i2 : (i : Int) < (p.kids.length : Int) := by omega
    have i3 : (i : Int) < (t.kids.length : Int) := by omega
    clear HM;go_wp2_with fail
    refine qal (fun _ => True) (fun Y => ∀ p : Addr, p.block < wr.drew.heap.size → p.block ≠ mb → Y.cell? p = wr.drew.cell? p) [] (.held 0 (.held 1 (.held 2 (.held 3 (.held 4 (.held 5 (.held 6 (.held 7 (.held 8 (.held 9 (.held 10 (.op 11 (.held 12 .nil))))))))))))) mixed (by kernel_rfl) ?_;generalize wr.drew = D at *;have hpr : qao D (fun b => b < B) p.kids pb poff := qao.mono (fun _ h => h) (fun q (hq : q.block < B) => HMD.out.bel.cell (by omega)) _ _ _ hpB hpl;have htr : qao D (fun b => b < B) t.kids tb toff := qao.mono (fun _ h => h) (fun q (hq : q.block < B) => HMD.out.bel.cell (by omega)) _ _ _ htB htl;obtain ⟨Ai, ci, k0, k1, k2, k3, hri⟩ := hpr.get i hlt;obtain ⟨Aj, cj, l0, l1, l2, l3, hrj⟩ := htr.get i hiu;have hst := qd5 p.kids i hlt;have hvy := qat HVP.out (List.getElem_mem hlt);have hvz := qat HVT.out (List.getElem_mem hiu)
    have hre := HE.out;rw [List.drop_eq_getElem_cons hlt, List.drop_eq_getElem_cons hiu, Tm.mats] at hre;have hsk : Tm.sizes (p.kids.take (i + 1)) = Tm.sizes (p.kids.take i) + p.kids[i].size := by
     rw [List.take_succ_eq_append_getElem hlt, qcr, Tm.sizes, Tm.sizes]; rfl
    obtain ⟨y, hy⟩ : ∃ y, y = p.kids[i] := ⟨_, rfl⟩;obtain ⟨z, hz⟩ : ∃ z, z = t.kids[i] := ⟨_, rfl⟩;rw [← hy] at k0 k1 k2 k3 hri hst hvy hre hsk;rw [← hz] at l0 l1 l2 l3 hrj hvz hre;clear hy hz hpr htr hpl htl HE;have CL := IH.out y z Ai Aj ci cj mi ni D (by omega) hvy hvz (by omega) HMS.out HMD.out.map hri hrj;have hmv := qif y z mi hvz HMS.out;obtain ⟨q, hq⟩ : ∃ q, q = y.mat z mi := ⟨_, rfl⟩;rw [← hq] at CL hre hmv;obtain ⟨q1, q2⟩ := q;simp only [Tm.val] at CL;have CL := Lib.hid CL;have HRE := Lib.hid hre;have HMS5 := Lib.hid hmv;clear hq hre hmv hvy hvz hri hrj HMS;obtain ⟨-, -, -, a3, -⟩ := qam p (HMD.out.b1);obtain ⟨-, -, -, b3, -⟩ := qam t (HMD.out.b2);have nb : ∀ k, k < B → k < D.heap.size ∧ k ≠ mb := fun k hk => ⟨by omega, by omega⟩;have nw : ∀ k, w.heap.size ≤ k → k < w.heap.size + 2 → k < D.heap.size ∧ k ≠ mb := fun k hk hk2 => ⟨by omega, by omega⟩
    refine qaa (v := .pointer (some ⟨w.heap.size, 3, none⟩)) rfl rfl rfl (fun _ _ _ h => h) trivial (fun _ _ _ => rfl) (fun Y _ hY => by
     (try simp only [Act.put]); go_simp) ?_
    refine qaa (v := .slice (some ⟨pb, poff, none⟩) p.kids.length cp) rfl rfl rfl (fun _ _ _ h => h) trivial (fun _ _ _ => rfl) (fun Y _ hY => by
     have z3 := (hY ⟨w.heap.size, 3, none⟩ (nw w.heap.size (Nat.le_refl _) (by omega)).1 (nw w.heap.size (Nat.le_refl _) (by omega)).2).trans a3
     (try simp only [Act.put]); go_simp) ?_
    refine qaa (v := .int .i64 i) rfl rfl rfl (fun _ _ _ h => h) trivial (fun _ _ _ => rfl) (fun Y _ hY => by
     (try simp only [Act.put]); go_simp) ?_
    refine qaa (v := .pointer (some ⟨pb, poff + i * 4, none⟩)) rfl rfl rfl (fun _ _ _ h => h) trivial (fun _ _ _ => rfl) (fun Y _ hY => by
     (try simp only [Act.put]); go_simp) ?_
    refine qaa (v := .agg #[.int .i64 y.kind, .string y.name, .int .i64 y.sort, .slice Ai y.kids.length ci]) rfl rfl rfl (fun _ _ _ h => h) trivial (fun _ _ _ => rfl) (fun Y _ hY => by
     have z0 := (hY ⟨pb, poff + i * 4, none⟩ (nb pb hpB).1 (nb pb hpB).2).trans k0;have z1 := (hY ⟨pb, poff + i * 4 + 1, none⟩ (nb pb hpB).1 (nb pb hpB).2).trans k1;have z2 := (hY ⟨pb, poff + i * 4 + 2, none⟩ (nb pb hpB).1 (nb pb hpB).2).trans k2;have z3 := (hY ⟨pb, poff + i * 4 + 3, none⟩ (nb pb hpB).1 (nb pb hpB).2).trans k3
     (try simp only [Act.put]); go_simp) ?_
    refine qaa (v := .pointer (some ⟨w.heap.size + 1, 3, none⟩)) rfl rfl rfl (fun _ _ _ h => h) trivial (fun _ _ _ => rfl) (fun Y _ hY => by
     (try simp only [Act.put]); go_simp) ?_
    refine qaa (v := .slice (some ⟨tb, toff, none⟩) t.kids.length ct) rfl rfl rfl (fun _ _ _ h => h) trivial (fun _ _ _ => rfl) (fun Y _ hY => by
     have z3 := (hY ⟨w.heap.size + 1, 3, none⟩ (nw (w.heap.size + 1) (by omega) (by omega)).1 (nw (w.heap.size + 1) (by omega) (by omega)).2).trans b3
     (try simp only [Act.put]); go_simp) ?_
    refine qaa (v := .int .i64 i) rfl rfl rfl (fun _ _ _ h => h) trivial (fun _ _ _ => rfl) (fun Y _ hY => by
     (try simp only [Act.put]); go_simp) ?_
    refine qaa (v := .pointer (some ⟨tb, toff + i * 4, none⟩)) rfl rfl rfl (fun _ _ _ h => h) trivial (fun _ _ _ => rfl) (fun Y _ hY => by
     (try simp only [Act.put]); go_simp) ?_
    refine qaa (v := .agg #[.int .i64 z.kind, .string z.name, .int .i64 z.sort, .slice Aj z.kids.length cj]) rfl rfl rfl (fun _ _ _ h => h) trivial (fun _ _ _ => rfl) (fun Y _ hY => by
     have z0 := (hY ⟨tb, toff + i * 4, none⟩ (nb tb htB).1 (nb tb htB).2).trans l0;have z1 := (hY ⟨tb, toff + i * 4 + 1, none⟩ (nb tb htB).1 (nb tb htB).2).trans l1;have z2 := (hY ⟨tb, toff + i * 4 + 2, none⟩ (nb tb htB).1 (nb tb htB).2).trans l2;have z3 := (hY ⟨tb, toff + i * 4 + 3, none⟩ (nb tb htB).1 (nb tb htB).2).trans l3
     (try simp only [Act.put]); go_simp) ?_
    refine qaa (v := .map (some mb)) rfl rfl rfl (fun _ _ _ h => h) trivial (fun _ _ _ => rfl) (fun Y _ hY => by
     (try simp only [Act.put]); go_simp) ?_
    simp only [Act.put, List.setIfInBounds_toArray];clear a3 b3 k0 k1 k2 k3 l0 l1 l2 l3;refine qab rfl rfl (fun K hK => ?_);go_wp2_with fail
    refine CL.out.mono ?_; clear CL;rintro e w5 ⟨rfl, n5, hn5, hm5, hb5, ho5⟩;have hs5 : ∀ p : Addr, p.block < D.heap.size → p.block ≠ mb → w5.cell? p = D.cell? p := fun p hp hne => World.cell?_of_block (ho5 _ hp hne);refine hK _ _ ⟨⟨fun _ => trivial, hs5⟩, ?_⟩;clear hK K;have HM5 := Lib.hid (HMD.out.call hmw hm5 hb5 ho5);clear HMD hm5 hb5 ho5
    cases q2 with
    | false =>
     refine qaa (v := .bool true) rfl rfl rfl (fun _ _ _ h => h) trivial hs5 (fun Y _ _ => by go_simp) ?_;refine qap ?_;go_wp2_with fail
     go_ret
     have he := HRE.out.trans (if_neg (by simp));rw [HR2.out.trans he];exact HM5.out.done (r := (q1, false)) rfl (by omega)
    | true =>
     refine qaa (v := .bool false) rfl rfl rfl (fun _ _ _ h => h) trivial hs5 (fun Y _ _ => by go_simp) ?_;refine qap ?_;go_wp2_with fail
     go_roundw
     case rel => exact ⟨i + 1, q1, n5, by go_num, by omega, by omega, HRE.out.trans (if_pos rfl), HMS5.out, HM5.out⟩
     case measure => simp [intOf]; omega
   ·obtain rfl : i = p.kids.length := by omega
    have he := HE.out;have e0 : Tm.mats ([] : List Tm) [] mi = (mi, true) := by rw [Tm.mats]; simp
    rw [List.drop_length, List.drop_of_length_le (by have := HKL.out; omega), e0] at he;go_wp2_with fail
    go_ret
    rw [HR2.out.trans he];rw [List.take_length] at hni;exact HM.out.done (r := (mi, true)) rfl (by omega)
end Go.Proofs.YtpjmdilpldaapaaGreatDoor
