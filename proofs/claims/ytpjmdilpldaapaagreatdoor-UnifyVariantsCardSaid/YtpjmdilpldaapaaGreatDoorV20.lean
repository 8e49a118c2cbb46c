/- Umapi, Uvar0, Uvrt0, Umix5 (joined by shake.py). -/
import Derived.Test.YtpjmdilpldaapaaGreatDoorV7
import Derived.Test.YtpjmdilpldaapaaGreatDoorV12
import Derived.Test.YtpjmdilpldaapaaGreatDoorV19
namespace Go.Proofs.YtpjmdilpldaapaaGreatDoor
open Go.RowKit Go.Maps
def qms : Value := .agg #[.string ⟨#[]⟩, .int .i64 0]
theorem zeroI_run (w : World) : (zeroValue 66).run Tryz.prog w = .ok qms w := by
 kernel_rfl
theorem qa0.lookI {w : World} {b n : Nat} {F : Tm → Option Value} (h : qa0 w b n F) {x : Tm} (hx : qbe x) :
  (Instr.lookup 82 (.map (some b)) (keyV x) true).run Tryz.prog w = .ok (.tuple #[(F x).getD qms, .bool (F x).isSome]) w := by
 obtain ⟨D, h1, h2⟩ := h;obtain ⟨v, ps, hr, hv⟩ := h1.look_ok qgc Tryz.underlying82 (zeroI_run w) (zd := .held qms) (zp := []) rfl (qc2 hx);obtain ⟨h3, h4⟩ := h2 x hx;rw [hr, h3];simp only [RV, Option.some.injEq, Prod.mk.injEq] at hv
 cases hF : F x with
 | none =>
  rw [hF] at h3;rw [atKey_of_not_has h3] at hv;have e := DataW.held.inj hv.1;subst e; rfl
 | some u =>
  rw [h4 u _ hF] at hv;have e := DataW.held.inj hv.1;subst e; rfl
theorem qa0.storeI {w : World} {b n : Nat} {F : Tm → Option Value} (h : qa0 w b n F) (hn : n < maxLen) {x : Tm} (hx : qbe x) (v : Value) :
  ∃ w', (Instr.mapUpdate 82 (.map (some b)) (keyV x) v).run Tryz.prog w = .ok () w' ∧ qa0 w' b (n + 1) (fun y => if y.name = x.name ∧ y.sort = x.sort then some v else F y) ∧ w.mapTurned w' b := by
 obtain ⟨D, h1, h2⟩ := h;obtain ⟨w', hr, ho, ht⟩ := h1.store qgc Tryz.underlying82 hn (qc2 hx) (val := v) (d := .held v) (ps := []) rfl;refine ⟨w', hr, ⟨_, ho, fun y hy => ?_⟩, ht⟩;dsimp only;by_cases e : y.name = x.name ∧ y.sort = x.sort
 ·have ek : keyL y = keyL x := by unfold keyL; rw [e.1, e.2]
  have hk := qgc.key (qc2 hx);rw [if_pos e, ek];exact ⟨has_put_same h1.isMap hk _, fun u zd hu => by have e := Option.some.inj hu; subst e; exact atKey_put_same h1.isMap hk _ _⟩
 ·rw [if_neg e];have hne : keyL y ≠ keyL x := fun h => e (key_inj hy hx h);rw [has_put_other hne];exact ⟨(h2 y hy).1, fun u zd hu => by rw [atKey_put_other hne]; exact (h2 y hy).2 u zd hu⟩
def MapI (w : World) (b n : Nat) (s : List Bd) : Prop :=
 ∃ F, qa0 w b n F ∧ (∀ x : Tm, x.kind = 1 → x.kids = [] → qbe x → (hasS s x = false ∧ F x = none) ∨ (hasS s x = true ∧ F x = some (keyV (getS s x)))) ∧ ∀ q ∈ s, q.2.kind = 1 ∧ q.2.kids = []
theorem MapI.keep {w w' : World} {b n : Nat} {s : List Bd} (h : MapI w b n s) (hm : w'.heap[b]? = w.heap[b]?) : MapI w' b n s := by
 obtain ⟨F, h1, h2⟩ := h;exact ⟨F, h1.keep hm, h2⟩
theorem MapI.var {w : World} {b n : Nat} {s : List Bd} (h : MapI w b n s) {x : Tm} (hx : hasS s x = true) : (getS s x).kind = 1 ∧ (getS s x).kids = [] := by
 obtain ⟨F, -, -, h3⟩ := h;obtain ⟨b, hb, e⟩ := qa3.1 hx;rcases qbv x s with ⟨b', hb', e1, e2⟩ | ⟨e1, e2⟩
 ·rw [e2]; exact h3 b' hb'
 ·exact absurd e (e2 b hb)
theorem MapI.lt {w : World} {b n : Nat} {s : List Bd} (h : MapI w b n s) : b < w.heap.size := h.choose_spec.1.lt
theorem MapI.made (w : World) : MapI (w.alloc (.map #[] 0)) w.heap.size 0 [] := ⟨fun _ => none, qa0.made w, fun _ _ _ _ => .inl ⟨rfl, rfl⟩, by simp⟩
theorem MapI.look {w : World} {b n : Nat} {s : List Bd} (h : MapI w b n s) {x : Tm} (k1 : x.kind = 1) (k2 : x.kids = []) (k3 : qbe x) :
  (Instr.lookup 82 (.map (some b)) (keyV x) true).run Tryz.prog w = .ok (.tuple #[if hasS s x = true then keyV (getS s x) else qms, .bool (hasS s x)]) w := by
 obtain ⟨F, h1, h2, -⟩ := h;have hl := h1.lookI k3;rcases h2 x k1 k2 k3 with ⟨e1, e2⟩ | ⟨e1, e2⟩
 ·rw [e2] at hl; rw [e1]; exact hl
 ·rw [e2] at hl; rw [e1]; exact hl
theorem MapI.store {w : World} {b n : Nat} {s : List Bd} (h : MapI w b n s) (hn : n < maxLen) {x : Tm} (k1 : x.kind = 1) (k2 : x.kids = []) (k3 : qbe x) (hno : hasS s x = false) (t : Tm) (htv : t.kind = 1 ∧ t.kids = []) :
  ∃ w', (Instr.mapUpdate 82 (.map (some b)) (keyV x) (keyV t)).run Tryz.prog w = .ok () w' ∧ MapI w' b (n + 1) (s ++ [(x, t)]) ∧ w.mapTurned w' b := by
 obtain ⟨F, h1, h2, h3⟩ := h;obtain ⟨w', hrun, hI, ht⟩ := h1.storeI hn k3 (keyV t);refine ⟨w', hrun, ⟨_, hI, fun y q1 q2 q3 => ?_, fun q hq => ?_⟩, ht⟩
 case refine_2 =>
  rcases List.mem_append.1 hq with h | h
  ·exact h3 q h
  ·rw [List.mem_singleton.1 h]; exact htv
 have he : (x = y) ↔ (y.name = x.name ∧ y.sort = x.sort) := ⟨fun e => by rw [e]; exact ⟨rfl, rfl⟩, fun e => qgm ⟨k1, k2⟩ ⟨q1, q2⟩ e.1.symm e.2.symm⟩;rw [qkb];by_cases e : x = y
 ·right;rw [if_pos (he.1 e)];refine ⟨by simp [e], ?_⟩;rw [← e, qdr (by rw [hno]; simp)]
 ·rw [if_neg (fun g => e (he.2 g)), qgd e];rcases h2 y q1 q2 q3 with ⟨g1, g2⟩ | ⟨g1, g2⟩
  ·exact .inl ⟨by rw [g1]; simp [e], g2⟩
  ·exact .inr ⟨by rw [g1]; rfl, g2⟩
end Go.Proofs.YtpjmdilpldaapaaGreatDoor
namespace Go.Proofs.YtpjmdilpldaapaaGreatDoor
def swB (m : List Bd) : List Bd := m.map fun b => (b.2, b.1)
mutual
def Tm.vrt : Tm → Tm → List Bd → List Bd × Bool
 | .mk k n s l, b, m => if k = 1 ∧ b.kind = 1 then (if hasS m (.mk k n s l) = true ∨ hasS (swB m) b = true then (m, hasS m (.mk k n s l) && hasS (swB m) b && decide (getS m (.mk k n s l) = b) && decide (getS (swB m) b = .mk k n s l)) else (m ++ [(.mk k n s l, b)], decide (s = b.sort)))
  else if k ≠ b.kind ∨ n ≠ b.name ∨ s ≠ b.sort ∨ l.length ≠ b.kids.length then (m, false) else Tm.vrts l b.kids m
def Tm.vrts : List Tm → List Tm → List Bd → List Bd × Bool
 | a :: l, b :: r, m => if (Tm.vrt a b m).2 = true then Tm.vrts l r (Tm.vrt a b m).1 else ((Tm.vrt a b m).1, false)
 | _, _, m => (m, true)
end
theorem qlt (a b : Tm) (m : List Bd) : a.vrt b m = if a.kind = 1 ∧ b.kind = 1 then (if hasS m a = true ∨ hasS (swB m) b = true then (m, hasS m a && hasS (swB m) b && decide (getS m a = b) && decide (getS (swB m) b = a)) else (m ++ [(a, b)], decide (a.sort = b.sort)))
  else if a.kind ≠ b.kind ∨ a.name ≠ b.name ∨ a.sort ≠ b.sort ∨ a.kids.length ≠ b.kids.length then (m, false) else Tm.vrts a.kids b.kids m := by
 obtain ⟨k, n, s, l⟩ := a;rw [Tm.vrt]; rfl
structure OneB (m : List Bd) : Prop where
 vars : ∀ b ∈ m, b.1.kind = 1 ∧ b.2.kind = 1 ∧ b.1.valid = 0 ∧ b.2.valid = 0 ∧ b.1.sort = b.2.sort
 one : ∀ a ∈ m, ∀ b ∈ m, a.1 = b.1 ↔ a.2 = b.2
theorem OneB.nil : OneB [] := ⟨by simp, by simp⟩
theorem OneB.swap {m : List Bd} (h : OneB m) : OneB (swB m) := by
 refine ⟨fun b hb => ?_, fun a ha b hb => ?_⟩
 ·obtain ⟨q, hq, rfl⟩ := List.mem_map.1 hb;obtain ⟨h1, h2, h3, h4, h5⟩ := h.vars q hq;exact ⟨h2, h1, h4, h3, h5.symm⟩
 ·obtain ⟨q, hq, rfl⟩ := List.mem_map.1 ha;obtain ⟨r, hr, rfl⟩ := List.mem_map.1 hb;exact (h.one q hq r hr).symm
theorem OneB.cons {m : List Bd} (h : OneB m) : qnu m := fun a ha b hb e => (h.one a ha b hb).1 e
theorem OneB.fit {m : List Bd} (h : OneB m) : FitS m := fun b hb => by
 obtain ⟨h1, h2, h3, h4, h5⟩ := h.vars b hb;exact ⟨check_valid h4, .inr ⟨by omega, h5.symm⟩⟩
theorem qfz {m : List Bd} {a b : Tm} : (a, b) ∈ swB m ↔ (b, a) ∈ m := by
 unfold swB;rw [List.mem_map];constructor
 ·rintro ⟨q, hq, e⟩;injection e with e1 e2;rw [← e1, ← e2]; exact hq
 ·exact fun h => ⟨_, h, rfl⟩
mutual
theorem vrt_ext : ∀ (a b : Tm) (m : List Bd), Ext m (a.vrt b m).1
 | .mk k n s l, b, m => by
  rw [Tm.vrt]
  split
  ·split
   ·exact Ext.refl _
   ·exact ⟨_, rfl⟩
  ·split
   ·exact Ext.refl _
   ·exact qiw l b.kids m
theorem qiw : ∀ (l r : List Tm) (m : List Bd), Ext m (Tm.vrts l r m).1
 | [], r, m => by rw [Tm.vrts]; exact Ext.refl _; simp
 | p :: l, [], m => by rw [Tm.vrts]; exact Ext.refl _; simp
 | p :: l, t :: r, m => by
  rw [Tm.vrts]
  split
  ·exact (vrt_ext p t m).trans (qiw l r _)
  ·exact vrt_ext p t m
end
mutual
theorem vrt_sound : ∀ (p t : Tm) (m : List Bd), p.valid = 0 → t.valid = 0 → OneB m → (p.vrt t m).2 = true → OneB (p.vrt t m).1 ∧ qcf (p.vrt t m).1 p ∧ p.put (p.vrt t m).1 = t
 | .mk k n s l, t, m, hp, ht, hm, h => by
  rw [Tm.vrt] at h ⊢;by_cases hk : k = 1 ∧ t.kind = 1
  ·rw [if_pos hk] at h ⊢;have hall := qg2 hp hk.1;by_cases hh : hasS m (.mk k n s l) = true ∨ hasS (swB m) t = true
   ·rw [if_pos hh] at h ⊢;simp only [Bool.and_eq_true, decide_eq_true_eq] at h;obtain ⟨⟨⟨h1, h2⟩, h3⟩, h4⟩ := h;refine ⟨hm, fun x hx _ => ?_, ?_⟩
    ·rw [hall, List.mem_singleton] at hx; rw [hx]; exact h1
    ·rw [put_var (x := .mk k n s l) hk.1]; exact h3
   ·rw [if_neg hh] at h ⊢;have hno : ¬ hasS m (.mk k n s l) = true := fun e => hh (.inl e);have hso : s = t.sort := by simpa using h
    have new1 : ∀ b ∈ m, b.1 ≠ .mk k n s l := fun b hb e => hno (qa3.2 ⟨b, hb, e⟩);have new2 : ∀ b ∈ m, b.2 ≠ t := fun b hb e => hh (.inr (qa3.2 ⟨(b.2, b.1), qfz.2 hb, e⟩));refine ⟨⟨fun b hb => ?_, fun a ha b hb => ?_⟩, fun x hx _ => ?_, ?_⟩
    ·rcases List.mem_append.1 hb with hb | hb
     ·exact hm.vars b hb
     ·rw [List.mem_singleton] at hb; subst hb;exact ⟨hk.1, hk.2, hp, ht, hso⟩
    ·rcases List.mem_append.1 ha with ha | ha <;> rcases List.mem_append.1 hb with hb | hb
     ·exact hm.one a ha b hb
     ·rw [List.mem_singleton] at hb; subst hb;exact ⟨fun e => absurd e (new1 a ha), fun e => absurd e (new2 a ha)⟩
     ·rw [List.mem_singleton] at ha; subst ha;exact ⟨fun e => absurd e.symm (new1 b hb), fun e => absurd e.symm (new2 b hb)⟩
     ·rw [List.mem_singleton] at ha hb; subst ha; subst hb;exact ⟨fun _ => rfl, fun _ => rfl⟩
    ·rw [hall, List.mem_singleton] at hx; rw [hx];exact qa3.2 ⟨_, List.mem_append_right _ (List.mem_singleton.2 rfl), rfl⟩
    ·rw [put_var (x := .mk k n s l) hk.1]; exact qdr hno
  ·rw [if_neg hk] at h ⊢;by_cases ha : k ≠ t.kind ∨ n ≠ t.name ∨ s ≠ t.sort ∨ l.length ≠ t.kids.length
   ·rw [if_pos ha] at h; cases h
   ·rw [if_neg ha] at h ⊢;have e1 : k = t.kind := Classical.byContradiction fun e => ha (.inl e);have e2 : n = t.name := Classical.byContradiction fun e => ha (.inr (.inl e));have e3 : s = t.sort := Classical.byContradiction fun e => ha (.inr (.inr (.inl e)));have e4 : l.length = t.kids.length := Classical.byContradiction fun e => ha (.inr (.inr (.inr e)));have hk1 : k ≠ 1 := fun e => hk ⟨e, by omega⟩;obtain ⟨h1, h2, h3⟩ := qh5 l t.kids m e4 (fun x hx => qas hp hx) (fun x hx => qas ht hx) hm h;refine ⟨h1, fun x hx hxk => ?_, ?_⟩
    ·rw [Tm.all] at hx;rcases List.mem_cons.1 hx with e | hx
     ·rw [e] at hxk; exact absurd hxk hk1
     ·obtain ⟨u, hu, hxu⟩ := qcx.1 hx;exact h2 u hu x hxu hxk
    ·rw [Tm.put, if_neg hk1, h3, e1, e2, e3];cases t; rfl
theorem qh5 : ∀ (l r : List Tm) (m : List Bd), l.length = r.length → (∀ x ∈ l, x.valid = 0) → (∀ x ∈ r, x.valid = 0) → OneB m → (Tm.vrts l r m).2 = true → OneB (Tm.vrts l r m).1 ∧ (∀ p ∈ l, qcf (Tm.vrts l r m).1 p) ∧ Tm.puts (Tm.vrts l r m).1 l = r
 | [], [], m, _, _, _, hm, _ => by rw [Tm.vrts]; exact ⟨hm, by simp, rfl⟩; simp
 | p :: l, t :: r, m, hl, hp, ht, hm, h => by
  rw [Tm.vrts] at h ⊢
  split at h
  ·rename_i h1
   rw [if_pos h1];obtain ⟨a1, a2, a3⟩ := vrt_sound p t m (hp p (List.mem_cons_self ..)) (ht t (List.mem_cons_self ..)) hm h1;obtain ⟨b1, b2, b3⟩ := qh5 l r _ (by simpa using hl) (fun x hx => hp x (List.mem_cons_of_mem _ hx)) (fun x hx => ht x (List.mem_cons_of_mem _ hx)) a1 h;have he := qiw l r (Tm.vrt p t m).1;refine ⟨b1, fun q hq => ?_, ?_⟩
   ·rcases List.mem_cons.1 hq with rfl | hq
    ·exact a2.ext he
    ·exact b2 q hq
   ·rw [Tm.puts, b3, qla he p a2, a3]
  ·cases h
end
def PartB (m P : List Bd) : Prop := ∀ b ∈ m, hasS P b.1 = true ∧ b.2 = getS P b.1
theorem qdy {P : List Bd} {x : Tm} (h : hasS P x = true) : (x, getS P x) ∈ P := by
 rcases qbv x P with ⟨b, hb, e1, e2⟩ | ⟨-, h2⟩
 ·rw [e2, ← e1]; exact hb
 ·obtain ⟨b, hb, e⟩ := qa3.1 h;exact absurd e (h2 b hb)
theorem PartB.sub {m P : List Bd} (h : PartB m P) {b : Bd} (hb : b ∈ m) : b ∈ P := by
 obtain ⟨h1, h2⟩ := h b hb;have := qdy h1;rw [← h2] at this; exact this
theorem qgj {P : List Bd} (hP : OneB P) {x : Tm} (hk : x.kind = 1) (m : List Bd) (hb : qcf P x) (hm : PartB m P) : (x.vrt (x.put P) m).2 = true ∧ PartB (x.vrt (x.put P) m).1 P := by
 rw [qlt];have hx := hb _ (mem_self _) hk;have hin := qdy hx;have hpt : x.put P = getS P x := put_var hk;obtain ⟨-, q2, -, -, q5⟩ := hP.vars _ hin;have q2 : (getS P x).kind = 1 := q2;have q5 : x.sort = (getS P x).sort := q5;rw [hpt];rw [if_pos ⟨hk, q2⟩];by_cases hh : hasS m x = true ∨ hasS (swB m) (getS P x) = true
 ·rw [if_pos hh];have hmem : (x, getS P x) ∈ m := by
   rcases hh with hh | hh
   ·have h1 := qdy hh;have h2 := (hm _ h1).2;dsimp only at h2;rw [← h2]; exact h1
   ·obtain ⟨b, hb1, hb2⟩ := qa3.1 hh;have hb3 : (b.2, b.1) ∈ m := qfz.1 hb1;have hb4 := hm.sub hb3;have := (hP.one _ hb4 _ hin).2 hb2;dsimp only at this;rw [this, hb2] at hb3; exact hb3
  have g1 : hasS m x = true := qa3.2 ⟨_, hmem, rfl⟩;have g2 : hasS (swB m) (getS P x) = true := qa3.2 ⟨_, qfz.2 hmem, rfl⟩;have g3 : getS m x = getS P x := (hm _ (qdy g1)).2;have g4 : getS (swB m) (getS P x) = x := by
   have h1 := qfz.1 (qdy g2);exact (hP.one _ (hm.sub h1) _ hin).2 rfl
  rw [g1, g2, g3, g4];exact ⟨by simp, hm⟩
 ·rw [if_neg hh];refine ⟨by simpa using q5, fun b hb => ?_⟩;rcases List.mem_append.1 hb with hb | hb
  ·exact hm b hb
  ·rw [List.mem_singleton] at hb; subst hb; exact ⟨hx, rfl⟩
mutual
theorem vrt_complete {P : List Bd} (hP : OneB P) : ∀ (p : Tm) (m : List Bd), p.valid = 0 → qcf P p → PartB m P → (p.vrt (p.put P) m).2 = true ∧ PartB (p.vrt (p.put P) m).1 P
 | .mk k n s l, m, hp, hb, hm => by
  rw [qlt];by_cases hk : k = 1
  ·exact qgj hP (by exact hk) m hb hm
  ·have hnv : (Tm.mk k n s l).put P = .mk k n s (Tm.puts P l) := by rw [Tm.put, if_neg hk]
   rw [hnv];rw [if_neg (fun h => hk h.1), if_neg (by
    rintro (h | h | h | h)
    ·exact h rfl
    ·exact h rfl
    ·exact h rfl
    ·exact h (Tm.puts_length P l).symm)]
   exact qe1 hP l m (fun x hx => qas hp hx) (fun y hy x hx hxk => hb x (qdj hy hx) hxk) hm
theorem qe1 {P : List Bd} (hP : OneB P) : ∀ (l : List Tm) (m : List Bd), (∀ x ∈ l, x.valid = 0) → (∀ x ∈ l, qcf P x) → PartB m P → (Tm.vrts l (Tm.puts P l) m).2 = true ∧ PartB (Tm.vrts l (Tm.puts P l) m).1 P
 | [], m, _, _, hm => by rw [Tm.vrts]; exact ⟨rfl, hm⟩; simp
 | p :: l, m, hp, hb, hm => by
  obtain ⟨h1, h2⟩ := vrt_complete hP p m (hp p (List.mem_cons_self ..)) (hb p (List.mem_cons_self ..)) hm;rw [Tm.puts, Tm.vrts, if_pos h1];exact qe1 hP l _ (fun x hx => hp x (List.mem_cons_of_mem _ hx)) (fun x hx => hb x (List.mem_cons_of_mem _ hx)) h2
end
theorem qix {t u : Tm} (ht : t.valid = 0) (hu : u.valid = 0) : (t.vrt u []).2 = true ↔ ∃ P, OneB P ∧ qcf P t ∧ t.put P = u := by
 constructor
 ·intro h;exact ⟨_, vrt_sound t u [] ht hu OneB.nil h⟩
 ·rintro ⟨P, h1, h2, rfl⟩;exact (vrt_complete h1 t [] ht h2 (by simp [PartB])).1
mutual
theorem qma {P : List Bd} (hP : OneB P) : ∀ t : Tm, t.check = 0 → qcf P t → (t.put P).put (swB P) = t ∧ qcf (swB P) (t.put P)
 | .mk k n s l, hc, hb => by
  by_cases hk : k = 1
  ·have hx := qdy (hb _ (mem_self _) hk);have hv := hP.vars _ hx;rw [put_var (x := .mk k n s l) hk];have hs := hP.swap.cons;refine ⟨?_, fun y hy hyk => ?_⟩
   ·rw [put_var hv.2.1];exact qmk hs (b := (getS P (.mk k n s l), .mk k n s l)) (qfz.2 hx)
   ·rw [qg2 hv.2.2.2.1 hv.2.1, List.mem_singleton] at hy;rw [hy]; exact qa3.2 ⟨_, qfz.2 hx, rfl⟩
  ·rcases qc9 hc with ⟨-, rfl⟩ | ⟨h3, -, h5⟩
   ·rw [qfa (t := .mk k n s []) hk rfl, qfa (t := .mk k n s []) hk rfl];refine ⟨rfl, fun y hy hyk => ?_⟩;rw [Tm.all, Tm.alls, List.mem_singleton] at hy;rw [hy] at hyk; exact absurd hyk hk
   ·obtain ⟨h6, h7⟩ := qj2 hP l h5 fun y hy x hx hxk => hb x (qdj hy hx) hxk;rw [Tm.put, if_neg hk, Tm.put, if_neg hk, h6];refine ⟨rfl, fun y hy hyk => ?_⟩;rw [Tm.all] at hy;rcases List.mem_cons.1 hy with e | hy
    ·rw [e] at hyk; exact absurd hyk hk
    ·obtain ⟨z, hz, hyz⟩ := qcx.1 hy;exact h7 z hz y hyz hyk
theorem qj2 {P : List Bd} (hP : OneB P) : ∀ l : List Tm, Tm.checks l = 0 → (∀ t ∈ l, qcf P t) → Tm.puts (swB P) (Tm.puts P l) = l ∧ ∀ t ∈ Tm.puts P l, qcf (swB P) t
 | [], _, _ => ⟨rfl, by simp [Tm.puts]⟩
 | t :: r, hc, hb => by
  obtain ⟨h1, h2⟩ := qdf hc;obtain ⟨a1, a2⟩ := qma hP t h1 (hb t (List.mem_cons_self ..));obtain ⟨b1, b2⟩ := qj2 hP r h2 fun y hy => hb y (List.mem_cons_of_mem _ hy);rw [Tm.puts, Tm.puts, a1, b1];refine ⟨rfl, fun y hy => ?_⟩;rcases List.mem_cons.1 hy with rfl | hy
  ·exact a2
  ·exact b2 y hy
end
theorem vrt_symm {t u : Tm} (ht : t.valid = 0) (hu : u.valid = 0) (h : (t.vrt u []).2 = true) : (u.vrt t []).2 = true ∧ (t.mat u []).2 = true ∧ (u.mat t []).2 = true := by
 obtain ⟨P, h1, h2, rfl⟩ := (qix ht hu).1 h;obtain ⟨h3, h4⟩ := qma h1 t (check_valid ht) h2;exact ⟨(qix hu ht).2 ⟨_, h1.swap, h4, h3⟩, (mat_iff ht hu).2 ⟨_, h1.fit, rfl⟩, (mat_iff hu ht).2 ⟨_, h1.swap.fit, h3⟩⟩
def oneR (m : List Bd) : Prop := (∀ b ∈ m, b.2.kind = 1 ∧ b.1.sort = b.2.sort) ∧ ∀ a ∈ m, ∀ b ∈ m, a.1 = b.1 ↔ a.2 = b.2
theorem col_vrt {t u : Tm} (ht : t.valid = 0) (hu : u.valid = 0) : ((t.col u []).2 = true ∧ oneR (t.col u []).1) ↔ (t.vrt u []).2 = true := by
 rw [qix ht hu];constructor
 ·rintro ⟨h1, h2, h3⟩;obtain ⟨c1, c2⟩ := qje t u [] ht hu h1;have hO : OneB (t.col u []).1 := ⟨fun b hb => by
   rcases c1 b hb with h | ⟨g1, -, g2, g3, -⟩
   ·cases h
   ·exact ⟨g1, (h2 b hb).1, g2, g3, (h2 b hb).2⟩, h3⟩
  exact ⟨_, hO, c2, qkp t u [] _ ht hu (Ext.refl _) hO.cons h1⟩
 ·rintro ⟨P, h1, h2, rfl⟩;obtain ⟨a1, a2⟩ := qgh h1.fit t [] ht (by simp [Agrees]);obtain ⟨c1, -⟩ := qje t _ [] ht hu a1;have inP : ∀ b ∈ (t.col (t.put P) []).1, b ∈ P := fun b hb => by
   rcases c1 b hb with h | ⟨g1, g2, -⟩
   ·cases h
   ·have h3 := qdy (h2 _ g2 g1);have h4 := a2 b hb;rw [put_var g1] at h4;rw [← h4] at h3; exact h3
  exact ⟨a1, fun b hb => by have := h1.vars b (inP b hb); exact ⟨this.2.1, this.2.2.2.2⟩, fun a ha b hb => h1.one a (inP a ha) b (inP b hb)⟩
end Go.Proofs.YtpjmdilpldaapaaGreatDoor
namespace Go.Proofs.YtpjmdilpldaapaaGreatDoor
open Go.RowKit Go.Sort Go.Maps
def VrtD (tb kb B N : Nat) (r : List Bd × Bool) (w : World) (e : Ending) (w' : World) : Prop :=
 e = .returned (.bool r.2) ∧ (∃ n1 n2, n1 ≤ N ∧ n2 ≤ N ∧ MapI w' tb n1 r.1 ∧ MapI w' kb n2 (swB r.1)) ∧ Below B w w' ∧ ∀ k, k < w.heap.size → k ≠ tb → k ≠ kb → w'.heap[k]? = w.heap[k]?
structure VAt (tb kb B n1 n2 : Nat) (m : List Bd) (w : World) (o1 o2 : Obj) (Z : World) : Prop where
 m1 : MapI Z tb n1 m
 m2 : MapI Z kb n2 (swB m)
 b1 : Z.heap[w.heap.size]? = some o1
 b2 : Z.heap[w.heap.size + 1]? = some o2
 bel : Below B w Z
 old : ∀ k, k < w.heap.size → k ≠ tb → k ≠ kb → Z.heap[k]? = w.heap[k]?
section
variable {tb kb B n1 n2 n1' n2' : Nat} {m m' : List Bd} {w Z Z' : World} {o1 o2 : Obj}
theorem VAt.lt (h : VAt tb kb B n1 n2 m w o1 o2 Z) : w.heap.size + 2 ≤ Z.heap.size := (Array.getElem?_eq_some_iff.1 h.b2).1
theorem VAt.go (h : VAt tb kb B n1 n2 m w o1 o2 Z) (hB : B ≤ w.heap.size) (hb : Below Z.heap.size Z Z') : VAt tb kb B n1 n2 m w o1 o2 Z' := by
 have hl := h.lt;exact ⟨h.m1.keep (hb.block _ h.m1.lt), h.m2.keep (hb.block _ h.m2.lt), (hb.block _ (by omega)).trans h.b1, (hb.block _ (by omega)).trans h.b2, h.bel.trans (hb.mono (by omega)), fun k hk h1 h2 => (hb.block k (by omega)).trans (h.old k hk h1 h2)⟩
theorem VAt.call (h : VAt tb kb B n1 n2 m w o1 o2 Z) (_hB : B ≤ tb ∧ B ≤ kb) (ht : tb < w.heap.size) (hk : kb < w.heap.size) {N : Nat} {r : List Bd × Bool} {e : Ending} (hd : VrtD tb kb B N r Z e Z') :
  ∃ n1 n2, n1 ≤ N ∧ n2 ≤ N ∧ VAt tb kb B n1 n2 r.1 w o1 o2 Z' := by
 have hl := h.lt;obtain ⟨-, ⟨a, b, ha, hb, g1, g2⟩, g3, g4⟩ := hd;exact ⟨a, b, ha, hb, g1, g2, (g4 _ (by omega) (by omega) (by omega)).trans h.b1, (g4 _ (by omega) (by omega) (by omega)).trans h.b2, h.bel.trans g3, fun k hk' h1 h2 => (g4 k (by omega) h1 h2).trans (h.old k hk' h1 h2)⟩
theorem VAt.turn {Y : World} (h : VAt tb kb B n1 n2 m w o1 o2 Z) (hB : B ≤ tb ∧ B ≤ kb) (hne : tb ≠ kb) (ht : tb < w.heap.size) (hk : kb < w.heap.size) (t1 : Z.mapTurned Y tb) (t2 : Y.mapTurned Z' kb) (g1 : MapI Y tb n1' m') (g2 : MapI Z' kb n2' (swB m')) : VAt tb kb B n1' n2' m' w o1 o2 Z' := by
 have hl := h.lt;have k1 : ∀ j, j < Z.heap.size → j ≠ tb → Y.heap[j]? = Z.heap[j]? := fun j hj hn => t1.grown.block j hj (fun e => by injection e with e; exact hn e);have s1 := t1.grown.size;have k2 : ∀ j, j < Y.heap.size → j ≠ kb → Z'.heap[j]? = Y.heap[j]? := fun j hj hn => t2.grown.block j hj (fun e => by injection e with e; exact hn e);have kk : ∀ j, j < Z.heap.size → j ≠ tb → j ≠ kb → Z'.heap[j]? = Z.heap[j]? := fun j hj h1 h2 => (k2 j (by omega) h2).trans (k1 j hj h1);have hbz := h.bel.size;exact ⟨g1.keep (k2 _ g1.lt hne), g2, (kk _ (by omega) (by omega) (by omega)).trans h.b1, (kk _ (by omega) (by omega) (by omega)).trans h.b2, (h.bel.grown t1.grown (by omega) (fun j e => by injection e with e; omega)).grown t2.grown (by omega) (fun j e => by injection e with e; omega), fun k hk' h1 h2 => (kk k (by omega) h1 h2).trans (h.old k hk' h1 h2)⟩
theorem VAt.done (h : VAt tb kb B n1 n2 m w o1 o2 Z) {N : Nat} (h1 : n1 ≤ N) (h2 : n2 ≤ N) (q : Bool) : VrtD tb kb B N (m, q) w (.returned (.bool q)) Z :=
 ⟨rfl, ⟨n1, n2, h1, h2, h.m1, h.m2⟩, h.bel, h.old⟩
end
theorem swB_snoc (m : List Bd) (a b : Tm) : swB (m ++ [(a, b)]) = swB m ++ [(b, a)] := by
 unfold swB; rw [List.map_append]; rfl
end Go.Proofs.YtpjmdilpldaapaaGreatDoor
namespace Go.Proofs.YtpjmdilpldaapaaGreatDoor
theorem qae {P : Program} {ops : Array Oper} {Q : Exit → Act → World → Prop} {S S2 : World → Prop} {wk : List Nat} {i : Nat} {r : Mx3} {a : Act} {w : World} {o : Oper} {v : Value} (ho : ops[i]? = some o) (hg : Region.wanted o (yielded ops a.tmps) = true) (hw : wk.contains i = false) (hQ : ∀ c a' w', Q (.panic c) (a'.put o.dst v) w' → Q (.panic c) a' w')
  (hS : S w) (hS2 : S2 w) (hv : ∀ w, S w → S2 w → (execOp a.eval o).run P w = .ok (.value v) w) (h : qaz P ops Q S S2 wk r (a.put o.dst v) w) : qaz P ops Q S S2 wk (.held i r) a w :=
 ⟨⟨fun _ => hS, hS2⟩, o, v, ho, Or.inl ⟨hg, fun w h => hv w (h.1 hw) h.2⟩, hQ, h⟩
theorem qb5 {P : Program} {ops : Array Oper} {Q : Exit → Act → World → Prop} {S S2 : World → Prop} {wk : List Nat} {i : Nat} {r : Mx3} {a : Act} {w : World} {o : Oper} (ho : ops[i]? = some o) (hg : Region.wanted o (yielded ops a.tmps) = false) (_hw : wk.contains i = false) (hQ : ∀ c a' w', Q (.panic c) (a'.put o.dst undef) w' → Q (.panic c) a' w')
  (hS : S w) (hS2 : S2 w) (h : qaz P ops Q S S2 wk r (a.put o.dst undef) w) : qaz P ops Q S S2 wk (.held i r) a w :=
 ⟨⟨fun _ => hS, hS2⟩, o, undef, ho, Or.inr ⟨hg, rfl⟩, hQ, h⟩
end Go.Proofs.YtpjmdilpldaapaaGreatDoor
