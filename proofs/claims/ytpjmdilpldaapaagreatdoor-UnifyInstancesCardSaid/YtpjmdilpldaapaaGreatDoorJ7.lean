/- Umat0, Ugen1, Umix, Usmall, Uoccurs, Gf, Uput, Urow (joined by shake.py). -/
import Derived.Test.YtpjmdilpldaapaaGreatDoorShl
import Derived.Test.YtpjmdilpldaapaaGreatDoorJ1
import Derived.Test.YtpjmdilpldaapaaGreatDoorJ3
import Derived.Test.YtpjmdilpldaapaaGreatDoorJ4
import Derived.Test.YtpjmdilpldaapaaGreatDoorJ5
import Derived.Test.YtpjmdilpldaapaaGreatDoorJ6
import Derived.Lib.ItoaLen
import Derived.Lib.FrozenHead2
import Derived.Lib.OthersKept
import Derived.Lib.Hide
import Derived.StillTailTactics
import Derived.Shelf.SlSortCmp.QuietGrown
import Derived.OwnWalk
set_option maxRecDepth 100000
namespace Go.Proofs.YtpjmdilpldaapaaGreatDoor
mutual
def Tm.mat : Tm → Tm → List Bd → List Bd × Bool
 | .mk k n s l, t, m => if k = 1 then (if hasS m (.mk k n s l) = true then (m, decide (getS m (.mk k n s l) = t)) else (m ++ [(.mk k n s l, t)], fits (.mk k n s l) t))
  else if qbc (.mk k n s l) t = true then Tm.mats l t.kids m else (m, decide (Tm.mk k n s l = t))
def Tm.mats : List Tm → List Tm → List Bd → List Bd × Bool
 | p :: l, t :: r, m => if (Tm.mat p t m).2 = true then Tm.mats l r (Tm.mat p t m).1 else ((Tm.mat p t m).1, false)
 | _, _, m => (m, true)
end
theorem mat_eq (p t : Tm) (m : List Bd) : p.mat t m = if p.kind = 1 then (if hasS m p = true then (m, decide (getS m p = t)) else (m ++ [(p, t)], fits p t)) else if qbc p t = true then Tm.mats p.kids t.kids m else (m, decide (p = t)) := by
 obtain ⟨k, n, s, l⟩ := p;rw [Tm.mat]; rfl
def qfs (x t : Tm) : Bool := decide (x.sort = 0) || (decide (t.kind ≠ 3) && decide (t.sort = x.sort))
theorem qi7 {x t : Tm} (hx : x.valid = 0) (hk : x.kind = 1) (ht : t.valid = 0) : fits x t = qfs x t := by
 unfold fits qfs; simp [hx, hk, ht]
def consU (l : List Bd) : Prop := ∀ a ∈ l, ∀ b ∈ l, a.1 = b.1 → a.2 = b.2
instance (l : List Bd) : Decidable (consU l) := by unfold consU; infer_instance
theorem qc0 {s : List Bd} {x : Tm} : hasS s x = true ↔ ∃ b ∈ s, b.1 = x := by
 induction s with
 | nil => simp [hasS]
 | cons b r ih =>
  rw [hasS];by_cases h : b.1 = x
  ·simp [h]
  ·simp only [h, if_false, ih, List.mem_cons, exists_eq_or_imp, false_or]
theorem qk3 {m r : List Bd} {x : Tm} (h : hasS m x = true) : getS (m ++ r) x = getS m x := by
 induction m with
 | nil => simp [hasS] at h
 | cons b m ih =>
  rw [hasS] at h;rw [List.cons_append, getS, getS];by_cases e : b.1 = x
  ·rw [if_pos e, if_pos e]
  ·rw [if_neg e] at h;rw [if_neg e, if_neg e, ih h]
theorem qga {m : List Bd} {x t : Tm} (h : ¬ hasS m x = true) : getS (m ++ [(x, t)]) x = t := by
 induction m with
 | nil => simp [getS]
 | cons b m ih =>
  rw [hasS] at h;by_cases e : b.1 = x
  ·rw [if_pos e] at h; exact absurd rfl h
  ·rw [if_neg e] at h;rw [List.cons_append, getS, if_neg e, ih h]
def Ext (m m' : List Bd) : Prop := ∃ r, m' = m ++ r
theorem Ext.refl (m : List Bd) : Ext m m := ⟨[], by simp⟩
theorem Ext.trans {a b c : List Bd} (h : Ext a b) (k : Ext b c) : Ext a c := by
 obtain ⟨r, rfl⟩ := h;obtain ⟨q, rfl⟩ := k;exact ⟨r ++ q, by simp⟩
theorem Ext.has {m m' : List Bd} (h : Ext m m') {x : Tm} (hx : hasS m x = true) : hasS m' x = true := by
 obtain ⟨r, rfl⟩ := h;obtain ⟨b, hb, e⟩ := qc0.1 hx;exact qc0.2 ⟨b, List.mem_append_left _ hb, e⟩
theorem Ext.get {m m' : List Bd} (h : Ext m m') {x : Tm} (hx : hasS m x = true) : getS m' x = getS m x := by
 obtain ⟨r, rfl⟩ := h;exact qk3 hx
def qig (m : List Bd) (t : Tm) : Prop := ∀ x ∈ t.all, x.kind = 1 → hasS m x = true
mutual
theorem put_ext {m m' : List Bd} (h : Ext m m') : ∀ t : Tm, qig m t → t.put m' = t.put m
 | .mk k n s l, hb => by
  rw [Tm.put, Tm.put]
  split
  ·rename_i hk; exact h.get (hb _ (mem_self _) hk)
  ·rw [qm2 h l fun k hk x hx => hb x (qeb hk hx)]
theorem qm2 {m m' : List Bd} (h : Ext m m') : ∀ l : List Tm, (∀ t ∈ l, qig m t) → Tm.puts m' l = Tm.puts m l
 | [], _ => rfl
 | t :: r, hb => by rw [Tm.puts, Tm.puts, put_ext h t (hb t (List.mem_cons_self ..)), qm2 h r fun k hk => hb k (List.mem_cons_of_mem _ hk)]
end
theorem qig.ext {m m' : List Bd} {t : Tm} (h : qig m t) (he : Ext m m') : qig m' t := fun x hx hk => he.has (h x hx hk)
structure MatOk (m : List Bd) : Prop where
 vars : ∀ b ∈ m, b.1.kind = 1 ∧ b.1.valid = 0 ∧ b.2.valid = 0 ∧ qfs b.1 b.2 = true
 apart : qco m
theorem MatOk.fit {m : List Bd} (h : MatOk m) : FitS m := fun b hb => by
 obtain ⟨-, -, h2, h3⟩ := h.vars b hb;refine ⟨check_valid h2, ?_⟩;unfold qfs at h3;simpa using h3
mutual
theorem mat_ext : ∀ (p t : Tm) (m : List Bd), Ext m (p.mat t m).1
 | .mk k n s l, t, m => by
  rw [Tm.mat]
  split
  ·split
   ·exact Ext.refl _
   ·exact ⟨_, rfl⟩
  ·split
   ·exact qjq l t.kids m
   ·exact Ext.refl _
theorem qjq : ∀ (l r : List Tm) (m : List Bd), Ext m (Tm.mats l r m).1
 | [], r, m => by rw [Tm.mats]; exact Ext.refl _; simp
 | p :: l, [], m => by rw [Tm.mats]; exact Ext.refl _; simp
 | p :: l, t :: r, m => by
  rw [Tm.mats]
  split
  ·exact (mat_ext p t m).trans (qjq l r _)
  ·exact mat_ext p t m
end
mutual
theorem qhr : ∀ (p t : Tm) (m : List Bd), p.valid = 0 → t.valid = 0 → MatOk m → (p.mat t m).2 = true → MatOk (p.mat t m).1 ∧ qig (p.mat t m).1 p ∧ p.put (p.mat t m).1 = t
 | .mk k n s l, t, m, hp, ht, hm, h => by
  rw [Tm.mat] at h ⊢;by_cases hk : k = 1
  ·rw [if_pos hk] at h ⊢;have hall := var_all hp hk;by_cases hh : hasS m (.mk k n s l) = true
   ·rw [if_pos hh] at h ⊢;refine ⟨hm, fun x hx _ => ?_, ?_⟩
    ·rw [hall, List.mem_singleton] at hx; rw [hx]; exact hh
    ·rw [put_var (x := .mk k n s l) hk]; simpa using h
   ·rw [if_neg hh] at h ⊢;refine ⟨⟨fun b hb => ?_, ?_⟩, fun x hx _ => ?_, ?_⟩
    ·rcases List.mem_append.1 hb with hb | hb
     ·exact hm.vars b hb
     ·rw [List.mem_singleton] at hb; subst hb;exact ⟨hk, hp, ht, by rw [← qi7 hp hk ht]; exact h⟩
    ·refine List.pairwise_append.2 ⟨hm.apart, List.pairwise_singleton .., fun b hb c hc => ?_⟩;rw [List.mem_singleton] at hc; subst hc;exact fun e => hh (qc0.2 ⟨b, hb, e⟩)
    ·rw [hall, List.mem_singleton] at hx; rw [hx];exact qc0.2 ⟨_, List.mem_append_right _ (List.mem_singleton.2 rfl), rfl⟩
    ·rw [put_var (x := .mk k n s l) hk]; exact qga hh
  ·rw [if_neg hk] at h ⊢;by_cases ha : qbc (.mk k n s l) t = true
   ·rw [if_pos ha] at h ⊢;obtain ⟨k1, k2, hn, hl⟩ := qbb.1 ha;have k1 : k = 3 := k1;have hl : l.length = t.kids.length := hl;obtain ⟨h1, h2, h3⟩ := qi2 l t.kids m hl (fun x hx => qa7 hp hx) (fun x hx => qa7 ht hx) hm h;refine ⟨h1, fun x hx hxk => ?_, ?_⟩
    ·rw [Tm.all] at hx;rcases List.mem_cons.1 hx with e | hx
     ·rw [e] at hxk; exact absurd hxk hk
     ·obtain ⟨u, hu, hxu⟩ := qed.1 hx;exact h2 u hu x hxu hxk
    ·rw [Tm.put, if_neg hk, h3];have e1 := qeu ht k2;have e2 : s = 0 := qeu hp (by exact k1);have hn' : n = t.name := hn;have k2' : t.kind = 3 := k2;rw [hn', k1, e2, ← k2']
     conv => lhs; rw [← e1]
     cases t; rfl
   ·rw [if_neg ha] at h ⊢;have e : Tm.mk k n s l = t := by simpa using h
    subst e;refine ⟨hm, ?_⟩;have hl0 : l = [] := by
     rcases qb5 (check_valid hp) with ⟨-, h0⟩ | ⟨h3, -, -⟩
     ·exact h0
     ·exact absurd (qbb.2 ⟨by exact h3, by exact h3, rfl, rfl⟩) ha
    subst hl0;refine ⟨fun x hx hxk => ?_, by rw [Tm.put, if_neg hk]; rfl⟩;rw [Tm.all, Tm.alls, List.mem_singleton] at hx;rw [hx] at hxk; exact absurd hxk hk
theorem qi2 : ∀ (l r : List Tm) (m : List Bd), l.length = r.length → (∀ x ∈ l, x.valid = 0) → (∀ x ∈ r, x.valid = 0) → MatOk m → (Tm.mats l r m).2 = true → MatOk (Tm.mats l r m).1 ∧ (∀ p ∈ l, qig (Tm.mats l r m).1 p) ∧ Tm.puts (Tm.mats l r m).1 l = r
 | [], [], m, _, _, _, hm, _ => by rw [Tm.mats]; exact ⟨hm, by simp, rfl⟩; simp
 | p :: l, t :: r, m, hl, hp, ht, hm, h => by
  rw [Tm.mats] at h ⊢
  split at h
  ·rename_i h1
   rw [if_pos h1];obtain ⟨a1, a2, a3⟩ := qhr p t m (hp p (List.mem_cons_self ..)) (ht t (List.mem_cons_self ..)) hm h1;obtain ⟨b1, b2, b3⟩ := qi2 l r _ (by simpa using hl) (fun x hx => hp x (List.mem_cons_of_mem _ hx)) (fun x hx => ht x (List.mem_cons_of_mem _ hx)) a1 h;have he := qjq l r (Tm.mat p t m).1;refine ⟨b1, fun q hq => ?_, ?_⟩
   ·rcases List.mem_cons.1 hq with rfl | hq
    ·exact a2.ext he
    ·exact b2 q hq
   ·rw [Tm.puts, b3, put_ext he p a2, a3]
  ·cases h
end
def Agrees (m τ : List Bd) : Prop := ∀ b ∈ m, b.2 = b.1.put τ
theorem Agrees.get {m τ : List Bd} (h : Agrees m τ) {x : Tm} (hx : hasS m x = true) : getS m x = x.put τ := by
 rcases qbk x m with ⟨b, hb, e1, e2⟩ | ⟨-, h2⟩
 ·rw [e2, h b hb, e1]
 ·obtain ⟨b, hb, e⟩ := qc0.1 hx;exact absurd e (h2 b hb)
theorem fit3_of {x : Tm} {τ : List Bd} (hk : x.kind = 1) (hf : FitS τ) : qfs x (x.put τ) = true := by
 unfold qfs;by_cases h0 : x.sort = 0
 ·simp [h0]
 ·obtain ⟨h1, h2⟩ := hf.sort hk h0;simp [h1, h2]
theorem put_atom {t : Tm} {s : List Bd} (h1 : t.kind ≠ 1) (h2 : t.kids = []) : t.put s = t := by
 obtain ⟨k, n, so, l⟩ := t;have h1' : k ≠ 1 := h1;have h2' : l = [] := h2;subst h2';rw [Tm.put, if_neg h1']; rfl
theorem alike_put {p : Tm} {τ : List Bd} (h : p.kind = 3) : qbc p (p.put τ) = true := by
 rw [put_app h];exact qbb.2 ⟨h, h, rfl, by show _ = (Tm.puts τ p.kids).length; rw [Tm.puts_length]⟩
mutual
theorem mat_complete {τ : List Bd} (hf : FitS τ) : ∀ (p : Tm) (m : List Bd), p.valid = 0 → (p.put τ).valid = 0 → Agrees m τ → (p.mat (p.put τ) m).2 = true ∧ Agrees (p.mat (p.put τ) m).1 τ
 | .mk k n s l, m, hp, ht, hm => by
  rw [mat_eq];by_cases hk : k = 1
  ·have hk : (Tm.mk k n s l).kind = 1 := hk;rw [if_pos hk];by_cases hh : hasS m (.mk k n s l) = true
   ·rw [if_pos hh];exact ⟨by simpa using hm.get hh, hm⟩
   ·rw [if_neg hh];refine ⟨by rw [qi7 hp hk ht]; exact fit3_of hk hf, fun b hb => ?_⟩;rcases List.mem_append.1 hb with hb | hb
    ·exact hm b hb
    ·rw [List.mem_singleton] at hb; subst hb; rfl
  ·rw [if_neg (show ¬ (Tm.mk k n s l).kind = 1 from hk)];rcases qhs hp with ⟨h1, -⟩ | ⟨h2, hl⟩ | h3
   ·exact absurd h1 hk
   ·have e := put_atom (s := τ) (t := .mk k n s l) hk hl;rw [if_neg (fun h => by have := (qbb.1 h).1; omega), e];exact ⟨by simp, hm⟩
   ·rw [if_pos (alike_put h3)];have e : ((Tm.mk k n s l).put τ).kids = Tm.puts τ l := by rw [put_app h3]; rfl
    rw [e];refine qfq hf l m (fun x hx => qa7 hp hx) (fun x hx => qa7 ht ?_) hm;rw [e, Tm.puts_eq]; exact List.mem_map_of_mem hx
theorem qfq {τ : List Bd} (hf : FitS τ) : ∀ (l : List Tm) (m : List Bd), (∀ x ∈ l, x.valid = 0) → (∀ x ∈ l, (x.put τ).valid = 0) → Agrees m τ → (Tm.mats l (Tm.puts τ l) m).2 = true ∧ Agrees (Tm.mats l (Tm.puts τ l) m).1 τ
 | [], m, _, _, hm => by rw [Tm.mats]; exact ⟨rfl, hm⟩; simp
 | p :: l, m, hp, ht, hm => by
  obtain ⟨h1, h2⟩ := mat_complete hf p m (hp p (List.mem_cons_self ..)) (ht p (List.mem_cons_self ..)) hm;rw [Tm.puts, Tm.mats, if_pos h1];exact qfq hf l _ (fun x hx => hp x (List.mem_cons_of_mem _ hx)) (fun x hx => ht x (List.mem_cons_of_mem _ hx)) h2
end
theorem mat_iff {p t : Tm} (hp : p.valid = 0) (ht : t.valid = 0) : (p.mat t []).2 = true ↔ ∃ τ, FitS τ ∧ p.put τ = t := by
 constructor
 ·intro h;obtain ⟨h1, -, h3⟩ := qhr p t [] hp ht ⟨by simp, List.Pairwise.nil⟩ h;exact ⟨_, h1.fit, h3⟩
 ·rintro ⟨τ, hf, rfl⟩;exact (mat_complete hf p [] hp ht (by simp [Agrees])).1
structure GrowG (g g' : Gs) : Prop where
 ex : ∃ qs ws, g'.pairs = g.pairs ++ qs ∧ g'.vars = g.vars ++ ws ∧ qs.length = ws.length
theorem GrowG.refl (g : Gs) : GrowG g g := ⟨[], [], by simp, by simp, rfl⟩
theorem GrowG.trans {a b c : Gs} (h : GrowG a b) (k : GrowG b c) : GrowG a c := by
 obtain ⟨q1, w1, h1, h2, h3⟩ := h.ex;obtain ⟨q2, w2, k1, k2, k3⟩ := k.ex;exact ⟨q1 ++ q2, w1 ++ w2, by rw [k1, h1, List.append_assoc], by rw [k2, h2, List.append_assoc], by simp [h3, k3]⟩
def TabV (g : Gs) : Prop := ∀ p ∈ g.pairs, p.1.valid = 0 ∧ p.2.valid = 0
theorem leafG_tab (N : List ByteArray) {t u : Tm} {g : Gs} (h : TabV g) (ht : t.valid = 0) (hu : u.valid = 0) : TabV (qd6 N t u g).2 := by
 unfold qd6
 split
 ·exact h
 ·intro p hp;rcases List.mem_append.1 hp with hp | hp
  ·exact h p hp
  ·rw [List.mem_singleton] at hp; rw [hp]; exact ⟨ht, hu⟩
mutual
theorem gen_tab (N : List ByteArray) : ∀ (t u : Tm) (g : Gs), TabV g → t.valid = 0 → u.valid = 0 → TabV (t.gen N u g).2
 | .mk k n s l, u, g, h, ht, hu => by
  rw [Tm.gen]
  split
  ·exact h
  ·split
   ·exact qjt N l u.kids g h (fun x hx => qa7 ht hx) (fun x hx => qa7 hu hx)
   ·exact leafG_tab N h ht hu
theorem qjt (N : List ByteArray) : ∀ (l m : List Tm) (g : Gs), TabV g → (∀ x ∈ l, x.valid = 0) → (∀ x ∈ m, x.valid = 0) → TabV (Tm.gens N l m g).2
 | [], m, g, h, _, _ => by rw [Tm.gens]; exact h; simp
 | t :: l, [], g, h, _, _ => by rw [Tm.gens]; exact h; simp
 | t :: l, u :: m, g, h, ht, hu => by
  rw [Tm.gens];exact qjt N l m _ (gen_tab N t u g h (ht t (List.mem_cons_self ..)) (hu u (List.mem_cons_self ..))) (fun x hx => ht x (List.mem_cons_of_mem _ hx)) (fun x hx => hu x (List.mem_cons_of_mem _ hx))
end
theorem qn6 : ∀ c : UInt8, 48 ≤ c.toNat → c.toNat ≤ 57 → qcc c = true := fun c h1 h2 => by
 unfold qcc qba;have : decide ((48 : Int) ≤ (c.toNat : Int) ∧ (c.toNat : Int) ≤ 57) = true := by simp; omega
 rw [this]; simp
theorem qh5 : ∀ n : Nat, ∀ c ∈ Lib.decDigits n, qcc c = true := by
 intro n
 induction n using Nat.strongRecOn with
 | _ n ih =>
  intro c hc;have key : ∀ d : Nat, d < 10 → qcc (UInt8.ofNat (48 + d)) = true := fun d hd => by
   refine qn6 _ ?_ ?_ <;> rw [UInt8.toNat_ofNat'] <;> omega
  by_cases h : n < 10
  ·rw [Lib.decDigits_one h, List.mem_singleton] at hc;rw [hc]; exact key n h
  ·rw [Lib.decDigits, dif_neg h] at hc;rcases List.mem_append.1 hc with hc | hc
   ·exact ih (n / 10) (by omega) c hc
   ·rw [List.mem_singleton] at hc;rw [hc]; exact key (n % 10) (by omega)
theorem qm5 {n : Nat} (h : n < 18446744073709551616) : qcp (qaw n).data.toList = true := by
 rw [qi5];unfold qcp;have h1 := Lib.nDigits_le20 n h;have h2 := Lib.decDigits_length n;have h3 : (Lib.decDigits n).all qcc = true := List.all_eq_true.2 (qh5 n);have h4 : qcc 103 = true := by decide
 have h5 : qcx 103 = true := by decide
 simp only [List.length_cons, List.all_cons, h3, h4, h5, Bool.and_self, Bool.and_true, decide_eq_true_eq];omega
def namesT (t : Tm) : List ByteArray := (t.all.filter fun x => decide (x.kind = 1)).map Tm.name
def namesU (t u : Tm) : List ByteArray := namesT t ++ namesT u
mutual
theorem qic : ∀ t : Tm, t.all.length = t.size
 | .mk k n s l => by rw [Tm.all, Tm.size, List.length_cons, qgt l]; omega
theorem qgt : ∀ l : List Tm, (Tm.alls l).length = Tm.sizes l
 | [] => rfl
 | t :: r => by rw [Tm.alls, Tm.sizes, List.length_append, qic t, qgt r]
end
def genE (t u : Tm) : Tm := (t.gen (namesU t u) u gs0).1
section
variable {P : Program} {ops : Array Oper} {Q : Exit → Act → World → Prop} {md : Region.Mode} {S : World → Prop} {n : Nat}
inductive Mx3 where
 | nil
 | held (i : Nat) (r : Mx3)
 | pure (i : Nat) (r : Mx3)
 | op (i : Nat) (r : Mx3)
 | two (i j : Nat) (r r' : Mx3)
 | three (i j k : Nat) (r r' r'' : Mx3)
def Mx3.len : Mx3 → Nat
 | .nil => 0
 | .held _ r | .pure _ r | .op _ r => r.len + 1
 | .two _ _ r _ => r.len + 1
 | .three _ _ _ r _ _ => r.len + 1
def qbn (P : Program) (ops : Array Oper) (Q : Exit → Act → World → Prop) (S : World → Prop) (n : Nat) : Mx3 → Act → World → Prop
 | .nil, a, w => Q .normal a w
 | .held i r, a, w => S w ∧ ∃ o v, ops[i]? = some o ∧ YieldsIf P ops S o v a ∧ (∀ c a' w', Q (.panic c) (a'.put o.dst v) w' → Q (.panic c) a' w') ∧ qbn P ops Q S n r (a.put o.dst v) w
 | .pure i r, a, w => (i < n → S w) ∧ ∃ o v, ops[i]? = some o ∧ YieldsIf P ops (fun _ => True) o v a ∧ (∀ c a' w', Q (.panic c) (a'.put o.dst v) w' → Q (.panic c) a' w') ∧ qbn P ops Q S n r (a.put o.dst v) w
 | .op i r, a, w => wpOp P ops Q i (fun a' w' => (i < n → S w') ∧ qbn P ops Q S n r a' w') a w
 | .two i j r r', a, w => wpOp P ops Q i (fun a' w' => (i < n → S w') ∧ qbn P ops Q S n r a' w') a w ∧ wpOp P ops Q j (fun a' w' => (j < n → S w') ∧ qbn P ops Q S n r' a' w') a w
 | .three i j k r r' r'', a, w => wpOp P ops Q i (fun a' w' => (i < n → S w') ∧ qbn P ops Q S n r a' w') a w ∧ wpOp P ops Q j (fun a' w' => (j < n → S w') ∧ qbn P ops Q S n r' a' w') a w ∧ wpOp P ops Q k (fun a' w' => (k < n → S w') ∧ qbn P ops Q S n r'' a' w') a w
def qew (md : Region.Mode) (ops : Array Oper) (n : Nat) : Mx3 → Array Bool → Bool
 | .nil, listed => (Region.ready md ops listed).isEmpty
 | .held i r, listed => decide (i < n) && (Region.ready md ops listed).contains i && Region.free md ops listed i && qew md ops n r (listed.setIfInBounds i true)
 | .pure i r, listed => decide (n ≤ i) && (Region.ready md ops listed).contains i && Region.free md ops listed i && qew md ops n r (listed.setIfInBounds i true)
 | .op i r, listed => decide (Region.ready md ops listed = [i]) && qew md ops n r (listed.setIfInBounds i true)
 | .two i j r r', listed => decide (Region.ready md ops listed = [i, j]) && decide (r.len = r'.len) && qew md ops n r (listed.setIfInBounds i true) && qew md ops n r' (listed.setIfInBounds j true)
 | .three i j k r r' r'', listed => decide (Region.ready md ops listed = [i, j, k]) && decide (r.len = r'.len) && decide (r.len = r''.len) && qew md ops n r (listed.setIfInBounds i true) && qew md ops n r' (listed.setIfInBounds j true) && qew md ops n r'' (listed.setIfInBounds k true)
def mixOk3 (md : Region.Mode) (ops : Array Oper) (n : Nat) (order : Mx3) : Bool :=
 Region.noSelect ops && barB md ops n && decide (order.len = ops.size) && qew md ops n order (Array.replicate ops.size false)
theorem qa1 (hsel : Region.noSelect ops = true) (hb : barB md ops n = true) :
  ∀ (order : Mx3) (listed : Array Bool) (a : Act) (w : World), qew md ops n order listed = true → qbn P ops Q S n order a w → qip P md ops Q S n order.len listed a w
 | .nil, listed, a, w, hB, h => ⟨by simpa [qew] using hB, h⟩
 | .held i r, listed, a, w, hB, h => by
  simp only [qew, Bool.and_eq_true, decide_eq_true_eq] at hB;obtain ⟨⟨⟨hin, hr⟩, hf⟩, hB2⟩ := hB;obtain ⟨hS, o, v, ho, hy, hQ, hrest⟩ := h;exact qdi ho (Region.noSelect_spec hsel) (fun l j w hun hj hSw => hSw (qlj hb hin hun j hj)) (fun _ h _ => h) hQ r.len listed a w (Region.free_spec ho hf) (by simpa using hr) hy hS
   (qa1 hsel hb r _ _ _ hB2 hrest)
 | .pure i r, listed, a, w, hB, h => by
  simp only [qew, Bool.and_eq_true, decide_eq_true_eq] at hB;obtain ⟨⟨⟨hin, hr⟩, hf⟩, hB2⟩ := hB;obtain ⟨_, o, v, ho, hy, hQ, hrest⟩ := h;exact qdi (S' := fun _ => True) ho (Region.noSelect_spec hsel) (fun _ _ _ _ _ _ => trivial) (fun _ _ h => absurd h (by omega)) hQ r.len listed a w (Region.free_spec ho hf) (by simpa using hr) hy trivial
   (qa1 hsel hb r _ _ _ hB2 hrest)
 | .op i r, listed, a, w, hB, h => by
  simp only [qew, Bool.and_eq_true, decide_eq_true_eq] at hB;refine ⟨fun h0 => (by rw [hB.1] at h0; cases h0), fun j hj => ?_⟩;rw [hB.1] at hj;obtain rfl : j = i := by simpa using hj
  exact wpOp_mono (fun a' w' h' => ⟨h'.1, qa1 hsel hb r _ a' w' hB.2 h'.2⟩) h
 | .two i k r r', listed, a, w, hB, h => by
  simp only [qew, Bool.and_eq_true, decide_eq_true_eq] at hB;obtain ⟨⟨⟨hr, hlen⟩, hB1⟩, hB2⟩ := hB;refine ⟨fun h0 => (by rw [hr] at h0; cases h0), fun j hj => ?_⟩;rw [hr] at hj;simp only [List.mem_cons, List.not_mem_nil, or_false] at hj;rcases hj with rfl | rfl
  ·exact wpOp_mono (fun a' w' h' => ⟨h'.1, qa1 hsel hb r _ a' w' hB1 h'.2⟩) h.1
  ·exact wpOp_mono (fun a' w' h' => ⟨h'.1, by rw [hlen]; exact qa1 hsel hb r' _ a' w' hB2 h'.2⟩) h.2
 | .three i k m r r' r'', listed, a, w, hB, h => by
  simp only [qew, Bool.and_eq_true, decide_eq_true_eq] at hB;obtain ⟨⟨⟨⟨⟨hr, hlen⟩, hlen2⟩, hB1⟩, hB2⟩, hB3⟩ := hB;refine ⟨fun h0 => (by rw [hr] at h0; cases h0), fun j hj => ?_⟩;rw [hr] at hj;simp only [List.mem_cons, List.not_mem_nil, or_false] at hj;rcases hj with rfl | rfl | rfl
  ·exact wpOp_mono (fun a' w' h' => ⟨h'.1, qa1 hsel hb r _ a' w' hB1 h'.2⟩) h.1
  ·exact wpOp_mono (fun a' w' h' => ⟨h'.1, by rw [hlen]; exact qa1 hsel hb r' _ a' w' hB2 h'.2⟩) h.2.1
  ·exact wpOp_mono (fun a' w' h' => ⟨h'.1, by rw [hlen2]; exact qa1 hsel hb r'' _ a' w' hB3 h'.2⟩) h.2.2
theorem qii {id : Nat} {Q : Exit → Act → World → Prop} {a : Act} {w : World} {l : List Oper} (S : World → Prop) (n : Nat) (order : Mx3) (hm : P.follows .mixedOrders = true)
  (hB : mixOk3 .any l.toArray n order = true) (h : qbn P l.toArray Q S n order a w.drew) : (Code.region id l.toArray true).wp P Q a w := by
 simp only [mixOk3, Bool.and_eq_true, decide_eq_true_eq] at hB;obtain ⟨⟨⟨hsel, hb⟩, hlen⟩, hB⟩ := hB;refine wp_region_any hm ?_;have := qf1 _ _ _ _ (qa1 (md := .any) hsel hb order _ a w.drew hB h);rw [hlen] at this;exact this
theorem qdj {a : Act} {w : World} (h : Q .normal a w) : qbn P ops Q S n .nil a w := h
theorem qb9 {i : Nat} {r : Mx3} {a : Act} {w : World} {o : Oper} {v : Value} (ho : ops[i]? = some o) (hg : o.guard = none) (hQ : ∀ c a' w', Q (.panic c) (a'.put o.dst v) w' → Q (.panic c) a' w')
  (hS : S w) (hv : ∀ w, S w → (execOp a.eval o).run P w = .ok (.value v) w) (h : qbn P ops Q S n r (a.put o.dst v) w) : qbn P ops Q S n (.held i r) a w :=
 ⟨hS, o, v, ho, Or.inl ⟨by simp [Region.wanted, hg], hv⟩, hQ, h⟩
theorem mix3_pure {i : Nat} {r : Mx3} {a : Act} {w : World} {o : Oper} {v : Value} (ho : ops[i]? = some o) (hg : o.guard = none) (hQ : ∀ c a' w', Q (.panic c) (a'.put o.dst v) w' → Q (.panic c) a' w')
  (hn : n ≤ i) (hv : ∀ w, (execOp a.eval o).run P w = .ok (.value v) w) (h : qbn P ops Q S n r (a.put o.dst v) w) : qbn P ops Q S n (.pure i r) a w :=
 ⟨fun h => absurd h (by omega), o, v, ho, Or.inl ⟨by simp [Region.wanted, hg], fun w _ => hv w⟩, hQ, h⟩
theorem qau {i : Nat} {r : Mx3} {a : Act} {w : World} {o : Oper} (ho : ops[i]? = some o) (hg : o.guard = none)
  (h : ∀ K : Act → World → Prop, (∀ a' w', (i < n → S w') ∧ qbn P ops Q S n r a' w' → K a' w') → o.wp P a w K Q) : qbn P ops Q S n (.op i r) a w := by
 show wpOp P ops Q i _ a w;unfold wpOp;simp only [ho, Region.wanted, hg, if_true];exact .inl (h _ fun a' w' h => h)
theorem mix3_take_g {i : Nat} {r : Mx3} {a : Act} {w : World} {o : Oper} {v : Value} (ho : ops[i]? = some o) (hw : Region.wanted o (yielded ops a.tmps) = true) (hQ : ∀ c a' w', Q (.panic c) (a'.put o.dst v) w' → Q (.panic c) a' w')
  (hS : S w) (hv : ∀ w, S w → (execOp a.eval o).run P w = .ok (.value v) w) (h : qbn P ops Q S n r (a.put o.dst v) w) : qbn P ops Q S n (.held i r) a w :=
 ⟨hS, o, v, ho, Or.inl ⟨hw, hv⟩, hQ, h⟩
theorem mix3_op_g {i : Nat} {r : Mx3} {a : Act} {w : World} {o : Oper} (ho : ops[i]? = some o) (hw : Region.wanted o (yielded ops a.tmps) = true)
  (h : ∀ K : Act → World → Prop, (∀ a' w', (i < n → S w') ∧ qbn P ops Q S n r a' w' → K a' w') → o.wp P a w K Q) : qbn P ops Q S n (.op i r) a w := by
 show wpOp P ops Q i _ a w;unfold wpOp;simp only [ho, hw, if_true];exact .inl (h _ fun a' w' h => h)
theorem qfo {i j : Nat} {r r' : Mx3} {a : Act} {w : World} (h : qbn P ops Q S n (.op i r) a w) (h' : qbn P ops Q S n (.op j r') a w) : qbn P ops Q S n (.two i j r r') a w := ⟨h, h'⟩
theorem qn7 {i j k : Nat} {r r' r'' : Mx3} {a : Act} {w : World} (h : qbn P ops Q S n (.op i r) a w) (h' : qbn P ops Q S n (.op j r') a w) (h'' : qbn P ops Q S n (.op k r'') a w) : qbn P ops Q S n (.three i j k r r' r'') a w := ⟨h, h', h''⟩
end
end Go.Proofs.YtpjmdilpldaapaaGreatDoor
namespace Go.Proofs.YtpjmdilpldaapaaGreatDoor
open Go.RowKit Go.Sort
theorem qds (t : Tm) (A : Option Addr) (c : Nat) (w : World) : Calls Tryz.prog 71 #[t.val A c] w fun e w' => e = .returned (.bool (t.kind == 1)) ∧ Lay w.heap.size w w' := by
 simp only [Tm.val];go_enter Tryz.func71, Tryz.ntmps71
 go_wp2_with fail
 go_ret
 exact ⟨rfl, (Lay.refl _ _).alloc (Nat.le_refl _) _⟩
theorem qht (t : Tm) (A : Option Addr) (c : Nat) (w : World) : Calls Tryz.prog 47 #[t.val A c] w fun e w' => e = .returned (keyV t) ∧ Lay w.heap.size w w' := by
 simp only [Tm.val, keyV];go_enter Tryz.func47, Tryz.ntmps47
 go_wp2_with fail
 refine bodyPost_ret (v := .agg #[.string t.name, .int .i64 t.sort]) ?_ rfl ?_
 ·simp [results, Tryz.results47, go_sem]
 exact ⟨rfl, ((Lay.refl _ _).alloc (Nat.le_refl _) _).alloc (by simp) _⟩
theorem qcw (t u : Tm) (A A' : Option Addr) (c c' : Nat) (w : World) (ht : t.size ≤ 1000000) (hu : u.size ≤ 1000000) (hrt : RepT w w.heap.size t A c) (hru : RepT w w.heap.size u A' c') :
  Calls Tryz.prog 48 #[t.val A c, u.val A' c'] w fun e w' => e = .returned (.bool (decide (t = u))) ∧ Lay w.heap.size w w' := by
 obtain ⟨V, hV⟩ : ∃ V, V = (w.alloc (boxT t A c)).alloc (boxT u A' c') := ⟨_, rfl⟩;have h2 : Two w t u A A' c c' V := by rw [hV]; exact Two.new _ _ _ _ _ _ _
 have CM := qde 1000000 t u A A' c c' V ht (Nat.le_refl _) hu (hrt.go h2.lay.below h2.lay.size) (hru.go h2.lay.below h2.lay.size);obtain ⟨d, hd⟩ : ∃ d, d = t.cmp u := ⟨_, rfl⟩;have hz : decide (t = u) = (d == 0) := by
  rw [hd, Bool.eq_iff_iff, decide_eq_true_iff, beq_iff_eq]; exact Tm.cmp_zero.symm
 rw [hz];rw [← hd] at CM;clear hz hd;have CM := Lib.hid CM;have H2 := Lib.hid h2.lay;obtain ⟨a0, a1, a2, a3, -⟩ := qae h2.one;obtain ⟨b0, b1, b2, b3, -⟩ := qae h2.two;clear h2;simp only [boxT] at hV;have HV := Lib.hid hV; clear hV;simp only [Tm.val] at CM ⊢;go_enter Tryz.func48, Tryz.ntmps48
 go_wp2_with fail
 rw [← HV.out];go_wp2_with fail
 refine CM.out.mono ?_; clear CM;rintro e w1 ⟨rfl, hl⟩;go_wp2_with fail
 go_ret
 exact ⟨rfl, H2.out.trans (hl.mono H2.out.size)⟩
theorem qid (t u : Tm) (A A' : Option Addr) (c c' : Nat) (w : World) (ht : t.kids.length ≤ 1000000) (hu : u.kids.length ≤ 1000000) :
  Calls Tryz.prog 73 #[t.val A c, u.val A' c'] w fun e w' => e = .returned (.bool (qbc t u)) ∧ Lay w.heap.size w w' := by
 have h2 : Lay w.heap.size w ((w.alloc (boxT t A c)).alloc (boxT u A' c')) := (Two.new w t u A A' c c').lay;simp only [boxT] at h2;have H2 := Lib.hid h2; clear h2;have e1 : qbc t u = (if (t.kind == 3) = true then (if (u.kind == 3) = true then (if (t.name.toList == u.name.toList) = true then ((t.kids.length : Int) == (u.kids.length : Int)) else false) else false) else false) := by
  unfold qbc;have hn : decide (t.name = u.name) = (t.name.toList == u.name.toList) := by
   rw [Bool.eq_iff_iff, decide_eq_true_iff, beq_iff_eq];exact ⟨fun h => by rw [h], fun h => by rw [ByteArray.toList_eq, ByteArray.toList_eq] at h; exact ByteArray.ext (Array.toList_inj.1 h)⟩
  have hl : decide (t.kids.length = u.kids.length) = ((t.kids.length : Int) == (u.kids.length : Int)) := by
   rw [Bool.eq_iff_iff, decide_eq_true_iff, beq_iff_eq]; omega
  have hk : ∀ x : Tm, decide (x.kind = 3) = (x.kind == 3) := fun x => by rw [Bool.eq_iff_iff, decide_eq_true_iff, beq_iff_eq]
  rw [hn, hl, hk, hk];cases t.kind == 3 <;> cases u.kind == 3 <;> cases t.name.toList == u.name.toList <;> rfl
 rw [e1];clear e1;have k1 : (t.kids.length : Int) ≤ 9223372036854775807 := by omega
 have k2 : (u.kids.length : Int) ≤ 9223372036854775807 := by omega
 simp only [Tm.val];generalize hq1 : (t.kind == 3) = q1;generalize hq2 : (u.kind == 3) = q2;generalize hq3 : (t.name.toList == u.name.toList) = q3
 cases q1 with
 | false =>
  go_enter Tryz.func73, Tryz.ntmps73
  go_wp2_with fail
  go_ret
  exact ⟨rfl, H2.out⟩
 | true =>
  cases q2 with
  | false =>
   go_enter Tryz.func73, Tryz.ntmps73
   go_wp2_with fail
   go_ret
   exact ⟨rfl, H2.out⟩
  | true =>
   cases q3 with
   | false =>
    go_enter Tryz.func73, Tryz.ntmps73
    go_wp2_with fail
    go_ret
    exact ⟨rfl, H2.out⟩
   | true =>
    go_enter Tryz.func73, Tryz.ntmps73
    go_wp2_with fail
    go_ret
    exact ⟨by simp, H2.out⟩
def TestT (g : Nat) (caps : Array Value) (p : Tm → Bool) (l : List Tm) (w : World) : Prop :=
 ∀ t ∈ l, ∀ (A : Option Addr) (c : Nat) (Z : World), Below w.heap.size w Z → RepT Z Z.heap.size t A c → Calls Tryz.prog g (#[t.val A c] ++ caps) Z fun e w' => e = .returned (.bool (p t)) ∧ Below Z.heap.size Z w'
set_option maxHeartbeats 1000000 in
theorem qoc (l : List Tm) (A0 : Option Addr) (cap0 : Nat) (g : Nat) (caps : Array Value) (p : Tm → Bool) (w : World) (eg : ∀ args w, (callFunc g args).run Tryz.prog w = .ok (.enter g args) w) (hp : TestT g caps p l w) (hlen : l.length ≤ 1000000) (hrep : RepS w (fun b => b < w.heap.size) l A0 cap0) :
  Calls Tryz.prog 118 #[.slice A0 l.length cap0, .func (.func g) #[] caps] w fun e w' => ∃ n : Int, e = .returned (.int .i64 n) ∧ decide (0 ≤ n) = l.any p ∧ Below w.heap.size w w' := by
 have mixed : Tryz.prog.follows .mixedOrders = true := by kernel_rfl
 obtain ⟨h1, h2, h3⟩ := hrep;unfold maxLen at h2;have HP := Lib.hid hp; clear hp;obtain ⟨r, hr⟩ : ∃ r, r = l.any p := ⟨_, rfl⟩;rw [← hr];have HR0 : Hid (r = (l.drop 0).any p) := hr; clear hr;go_enter Tryz.func118, Tryz.ntmps118
 go_wp2_with fail
 go_loopw [5, 8] (fun _ i wr => ∃ k : Nat, k ≤ l.length ∧ i = .int .i64 k ∧ Hid (r = (l.drop k).any p) ∧ Hid (Below w.heap.size w wr)) (fun _ i _ => l.length - (intOf i).toNat)
 case atStart => exact ⟨0, Nat.zero_le _, rfl, HR0, Below.refl _ _⟩
 case round =>
  obtain ⟨k, hk, rfl, HR, HBW⟩ := hrel;have i1 : (0 : Int) ≤ (k : Int) := Int.natCast_nonneg _;by_cases hlt : k < l.length
  ·have i2 : (k : Int) < (l.length : Int) := by omega
   rcases h3 with rfl | ⟨b, off, rfl, hbB, hl⟩
   ·simp at hlt
   have hws := HBW.out.size;have hlr : qal wr (fun b => b < w.heap.size) l b off := qal.mono (fun _ h => h) (fun p hp => HBW.out.cell hp) _ _ _ hbB hl;obtain ⟨A, c, a0, a1, a2, a3, hra⟩ := hlr.get k hlt;have HC := Lib.hid (HP.out l[k] (List.getElem_mem hlt) A c wr HBW.out (RepP.mono (fun b (h : b < w.heap.size) => by omega) (fun _ _ => rfl) _ _ _ hra));have hst : r = (p l[k] || (l.drop (k + 1)).any p) := by rw [HR.out, List.drop_eq_getElem_cons hlt, List.any_cons]
   obtain ⟨q, hq⟩ : ∃ q, q = p l[k] := ⟨_, rfl⟩;rw [← hq] at HC hst;have HST := Lib.hid hst; clear hst hq hlr hl;simp only [Tm.val] at HC
   cases q with
   | true =>
    have hr : r = true := by rw [HST.out, Bool.true_or]
    subst hr;clear HST;go_wp2_with (go_at_fn g; refine HC.out.mono ?_; rintro e w' ⟨rfl, hb'⟩)
    go_ret
    exact ⟨k, rfl, decide_eq_true (by omega), HBW.out.trans (hb'.mono hws)⟩
   | false =>
    have HNX : Hid (r = (l.drop (k + 1)).any p) := by rw [HST.out, Bool.false_or]; exact rfl
    clear HST;go_wp2_with (go_at_fn g; refine HC.out.mono ?_; rintro e w' ⟨rfl, hb'⟩)
    go_roundw
    case rel => exact ⟨k + 1, by omega, by go_num, HNX, HBW.out.trans (hb'.mono hws)⟩
    case measure => simp [intOf]; omega
  ·obtain rfl : k = l.length := by omega
   have hr : r = false := by rw [HR.out, List.drop_length]; rfl
   subst hr;go_wp2_with fail
   go_ret
   exact ⟨-1, rfl, by decide, HBW.out⟩
theorem qjy (l : List Tm) (A0 : Option Addr) (cap0 : Nat) (g : Nat) (caps : Array Value) (p : Tm → Bool) (w : World) (eg : ∀ args w, (callFunc g args).run Tryz.prog w = .ok (.enter g args) w) (hp : TestT g caps p l w) (hlen : l.length ≤ 1000000) (hrep : RepS w (fun b => b < w.heap.size) l A0 cap0) :
  Calls Tryz.prog 102 #[.slice A0 l.length cap0, .func (.func g) #[] caps] w fun e w' => e = .returned (.bool (l.any p)) ∧ Below w.heap.size w w' := by
 have HI := Lib.hid (qoc l A0 cap0 g caps p w eg hp hlen hrep);clear hp hrep;generalize l.any p = r at *;go_enter Tryz.func102, Tryz.ntmps102
 go_wp2_with fail
 refine HI.out.mono ?_;rintro e w' ⟨n, rfl, hn, hb⟩;go_wp2_with fail
 go_ret
 exact ⟨by rw [← hn]; rfl, hb⟩
theorem occT_step (x : Tm) (k : Int) (n : ByteArray) (s : Int) (l : List Tm) : occT x (.mk k n s l) = (decide (x = .mk k n s l) || l.any (occT x)) := by
 unfold occT;rw [Bool.eq_iff_iff];simp only [decide_eq_true_eq, Bool.or_eq_true, List.any_eq_true, Tm.all, List.mem_cons, qed]
set_option maxHeartbeats 1000000 in
theorem qhc (n : Nat) : ∀ (x t : Tm) (A A' : Option Addr) (c c' : Nat) (w : World), x.size ≤ 1000000 → t.size ≤ n → n ≤ 1000000 → RepT w w.heap.size x A c → RepT w w.heap.size t A' c' →
  Calls Tryz.prog 85 #[x.val A c, t.val A' c'] w fun e w' => e = .returned (.bool (occT x t)) ∧ Below w.heap.size w w' := by
 induction n with
 | zero => intro x t _ _ _ _ _ _ h; have := t.size_pos; omega
 | succ n ih =>
  intro x t A A' c c' w hx hn hn1 hrx hrt;obtain ⟨V, hV⟩ : ∃ V, V = (w.alloc (boxT x A c)).alloc (boxT t A' c') := ⟨_, rfl⟩;have h2 : Two w x t A A' c c' V := by rw [hV]; exact Two.new _ _ _ _ _ _ _
  have SM := qcw x t A A' c c' V hx (by omega) (hrx.go h2.lay.below h2.lay.size) (hrt.go h2.lay.below h2.lay.size);obtain ⟨tk, tn, ts, l⟩ := t;have CF : Hid (∀ Z, Lay V.heap.size V Z → Calls Tryz.prog 102 #[.slice A' l.length c', .func (.func 103) #[] #[.pointer (some ⟨w.heap.size, 0, none⟩)]] Z fun e w' => e = .returned (.bool (l.any (occT x))) ∧ Below Z.heap.size Z w') := Lib.hid fun Z hZ => by
   rw [qb6] at hrt;rw [Tm.size] at hn;have hls := Tm.length_le_sizes l;have hs2 := h2.lay.size;have hsZ := hZ.size;have hl2 := h2.lt;have hwZ : Below w.heap.size w Z := qad h2.lay.below hZ.below hs2;refine qjy l A' c' 103 #[.pointer (some ⟨w.heap.size, 0, none⟩)] (occT x) Z (enters_of Tryz.func103 (by kernel_rfl) rfl) (fun u hu Au cu Y hY hru => ?_) (by omega) (RepS.mono (fun b (h : b < w.heap.size) => by omega) (fun p hp => hwZ.cell hp) hrt.2);have hsz : u.size ≤ n := by
    obtain ⟨j, hj, e⟩ := List.getElem_of_mem hu;have := Tm.sizes_get l j hj;rw [e] at this; omega
   have hbx : Y.heap[w.heap.size]? = some (.cells #[.int .i64 x.kind, .string x.name, .int .i64 x.sort, .slice A x.kids.length c] 24 (0, 0)) := (hY.block _ (by omega)).trans ((hZ.below.block _ (by omega)).trans h2.one);have hwY : Below w.heap.size w Y := qad hwZ hY hwZ.size;obtain ⟨W, hW⟩ : ∃ W, W = Y.alloc (boxT u Au cu) := ⟨_, rfl⟩;have hbW : Below Y.heap.size Y W := by rw [hW]; exact qaf (Nat.le_refl _) _
   have hub : W.heap[Y.heap.size]? = some (boxT u Au cu) := by rw [hW]; exact heap_alloc_new _ _
   have hxW := (hbW.block _ (by have := hY.size; omega)).trans hbx;have OC := Lib.hid (ih x u A Au c cu W hx hsz (by omega) (hrx.go (qad hwY hbW hwY.size) (Nat.le_trans hwY.size hbW.size)) (hru.go hbW hbW.size));obtain ⟨a0, a1, a2, a3, -⟩ := qae hxW;simp only [boxT] at hW hub;obtain ⟨b0, b1, b2, b3, -⟩ := qae hub;have HW := Lib.hid hW; clear hW;have HB := Lib.hid hbW; clear hbW;clear hub hxW hbx hwY hwZ h2 hZ hY hrt hru hrx ih;show Calls Tryz.prog 103 #[u.val Au cu, .pointer (some ⟨w.heap.size, 0, none⟩)] Y _;generalize occT x u = q at *;simp only [Tm.val] at OC ⊢;rw [HW.out] at a0 a1 a2 a3 b0 b1 b2 b3;go_enter Tryz.func103, Tryz.ntmps103
   go_wp2_with fail
   rw [← HW.out];refine OC.out.mono ?_; clear OC;rintro e w3 ⟨rfl, hb3⟩;go_wp2_with fail
   go_ret
   exact ⟨rfl, qad HB.out hb3 HB.out.size⟩
  rw [occT_step];have H2 := Lib.hid h2.lay;obtain ⟨a0, a1, a2, a3, -⟩ := qae h2.one;obtain ⟨b0, b1, b2, b3, -⟩ := qae h2.two;have HT := Lib.hid h2.two;clear h2 hrx hrt ih;simp only [boxT] at hV;have HV := Lib.hid hV; clear hV;generalize decide (x = .mk tk tn ts l) = q at *;generalize l.any (occT x) = q2 at *;have SM := Lib.hid SM;simp only [Tm.val, Tm.kind, Tm.name, Tm.sort, Tm.kids] at *;go_enter Tryz.func85, Tryz.ntmps85
  go_wp2_with fail
  rw [← HV.out];go_wp2_with fail
  refine SM.out.mono ?_; clear SM a0 a1 a2 a3 b0 b1 b2 b3;rintro e w1 ⟨rfl, hl1⟩;have CF := Lib.hid (CF.out w1 hl1);obtain ⟨b0, b1, b2, b3, -⟩ := qae ((hl1.below.block _ ((Array.getElem?_eq_some_iff.1 HT.out).1)).trans HT.out);have H3 := Lib.hid (H2.out.trans (hl1.mono H2.out.size)); clear hl1
  cases q with
  | true =>
   go_wp2_with fail
   go_ret
   exact ⟨rfl, H3.out.below⟩
  | false =>
   go_wp2_with fail
   refine CF.out.mono ?_; clear CF;rintro e w2 ⟨rfl, hb2⟩;go_wp2_with fail
   go_ret
   exact ⟨by simp, qad H3.out.below hb2 H3.out.size⟩
end Go.Proofs.YtpjmdilpldaapaaGreatDoor
namespace Go.Proofs.YtpjmdilpldaapaaGreatDoor
open Go.RowKit
open Go.RowKit
open Go.RowKit Go.Sort
def qmp (s : Int) : List UInt8 := (qjh.getD s.toNat ByteArray.empty).data.toList
mutual
def Tm.text : Tm → List UInt8
 | .mk k n s l =>
  if k = 1 then 63 :: (n.data.toList ++ (if s = 0 then [] else 58 :: qmp s))
  else if k = 2 then n.data.toList ++ 58 :: qmp s
  else n.data.toList ++ 40 :: (Tm.texts l ++ [41])
def Tm.texts : List Tm → List UInt8
 | [] => []
 | t :: r => t.text ++ Tm.more r
def Tm.more : List Tm → List UInt8
 | [] => []
 | t :: r => 44 :: 32 :: (t.text ++ Tm.more r)
end
theorem qoo {k s : Int} {n : ByteArray} {l : List Tm} (hk : k = 1 ∨ k = 2) (h : (Tm.mk k n s l).check = 0) : 0 ≤ s ∧ s ≤ 5 ∧ l = [] ∧ qcp n.data.toList = true := by
 rw [Tm.check, if_pos hk] at h
 split at h
 ·omega
 ·rename_i h1
  split at h
  ·omega
  ·rename_i h2
   refine ⟨by omega, by omega, ?_, by simpa using h2⟩;exact Classical.byContradiction fun h3 => h1 (.inr (.inr h3))
structure Wrote (B b : Nat) (w w' : World) : Prop where
 below : Below B w w'
 others : Lib.OthersKept 5 (some b) w w'
theorem Wrote.refl (B b : Nat) (w : World) : Wrote B b w w := ⟨Below.refl _ _, Lib.OthersKept.refl _ _ _⟩
theorem Wrote.trans {B b : Nat} {u v w : World} (h : Wrote B b u v) (k : Wrote B b v w) : Wrote B b u w := ⟨h.below.trans k.below, h.others.trans k.others⟩
theorem Wrote.alloc {B b : Nat} {u w : World} (h : Wrote B b u w) (hB : B ≤ w.heap.size) (o : Obj) : Wrote B b u (w.alloc o) := ⟨h.below.alloc hB o, h.others.alloc o⟩
theorem Wrote.drewN {B b : Nat} {u w : World} (h : Wrote B b u w) (n : Nat) : Wrote B b u (w.drewN n) := ⟨⟨h.below.os, h.below.tape, h.below.output, h.below.size, h.below.block⟩, h.others⟩
theorem Wrote.box {B b : Nat} {u w : World} (h : Wrote B b u w) {p : Nat} {cs : Array Value} {fr : Nat × Nat} (hp : u.heap[p]? = some (.cells cs 24 fr)) (hne : p ≠ b) : w.heap[p]? = some (.cells cs 24 fr) :=
 h.others p _ hp (fun e => hne (Option.some.inj e)) (fun c fz e => by injection e with _ e2 _; exact absurd e2 (by decide))
end Go.Proofs.YtpjmdilpldaapaaGreatDoor
namespace Go.Proofs.YtpjmdilpldaapaaGreatDoor
open Go.RowKit Go.Sort
def MapT (w : World) (b n : Nat) (G : Nat → Prop) (s : List Bd) : Prop :=
 ∃ F, qa9 w b n F ∧ ∀ x : Tm, x.kind = 1 → x.kids = [] → qbm x → (hasS s x = false ∧ F x = none) ∨ (hasS s x = true ∧ ∃ A c, F x = some ((getS s x).val A c) ∧ RepP w G (getS s x) A c)
theorem MapT.keep {w w' : World} {b n : Nat} {G : Nat → Prop} {s : List Bd} (h : MapT w b n G s) (hm : w'.heap[b]? = w.heap[b]?) (hG : ∀ p : Addr, G p.block → w'.cell? p = w.cell? p) : MapT w' b n G s := by
 obtain ⟨F, h1, h2⟩ := h;exact ⟨F, h1.keep hm, fun x k1 k2 k3 => (h2 x k1 k2 k3).imp id fun ⟨a, A, c, e, r⟩ => ⟨a, A, c, e, RepP.mono (fun _ h => h) (fun _ hp => hG _ hp) _ _ _ r⟩⟩
theorem MapT.lt {w : World} {b n : Nat} {G : Nat → Prop} {s : List Bd} (h : MapT w b n G s) : b < w.heap.size := h.choose_spec.1.lt
theorem MapT.below {w w' : World} {b n B : Nat} {G : Nat → Prop} {s : List Bd} (h : MapT w b n G s) (hb : Below B w w') (hB : b < B) (hG : ∀ k, G k → k < B) : MapT w' b n G s :=
 h.keep (hb.block _ hB) (fun _ hp => hb.cell (hG _ hp))
theorem MapT.look {w : World} {b n : Nat} {G : Nat → Prop} {s : List Bd} (h : MapT w b n G s) {x : Tm} (k1 : x.kind = 1) (k2 : x.kids = []) (k3 : qbm x) :
  (hasS s x = false ∧ (Instr.lookup 62 (.map (some b)) (keyV x) true).run Tryz.prog w = .ok (.tuple #[qjg, .bool false]) w) ∨
  (∃ A c, hasS s x = true ∧ RepP w G (getS s x) A c ∧ (Instr.lookup 62 (.map (some b)) (keyV x) true).run Tryz.prog w = .ok (.tuple #[(getS s x).val A c, .bool true]) w) := by
 obtain ⟨F, h1, h2⟩ := h;have hl := h1.look k3;rcases h2 x k1 k2 k3 with ⟨e1, e2⟩ | ⟨e1, A, c, e2, r⟩
 ·left; rw [e2] at hl; exact ⟨e1, hl⟩
 ·right; rw [e2] at hl; exact ⟨A, c, e1, r, hl⟩
theorem qb0 {w : World} {ops : Array Oper} {rest : List Oper} {o : Oper} {a : Act} {Q : Exit → Act → World → Prop} {m k r : Value} {t : TypeId} (hgd : o.guard = none) (om ok : Operand)
  (ho : o.op = .lookup t om ok true) (hm : a.eval om = m) (hk : a.eval ok = k) (hrun : (Instr.lookup t m k true).run Tryz.prog w = .ok r w) (h : wpList Tryz.prog ops Q rest (a.put o.dst r) w) : wpList Tryz.prog ops Q (o :: rest) a w := by
 refine wpList_plain hgd fun K hK => ?_;unfold Oper.wp;simp [execOp, ho, hm, hk, hrun, Result.andThen];exact hK _ _ h
theorem check_keyable {t : Tm} (h : t.check = 0) (hk : t.kind = 1) : t.kids = [] ∧ qbm t := by
 obtain ⟨k, n, s, l⟩ := t;have hk : k = 1 := hk;subst hk;obtain ⟨h1, h2, h3, h4⟩ := qoo (.inl rfl) h;refine ⟨h3, ?_, h1, h2⟩;show n.size ≤ maxLen;rw [qfi];have : n.data.toList.length ≤ 24 := by
  unfold qcp at h4;simp only [Bool.and_eq_true, decide_eq_true_eq] at h4;exact h4.1.1
 unfold maxLen; omega
theorem getS_noneU {x : Tm} : ∀ {s : List Bd}, hasS s x = false → getS s x = x
 | [], _ => rfl
 | b :: r, h => by
  rw [hasS] at h;rw [getS]
  split at h
  ·cases h
  ·rename_i hne; rw [if_neg hne]; exact getS_noneU h
def PutU (G : Nat → Prop) (u : Tm) (w : World) (e : Ending) (w' : World) : Prop :=
 ∃ A c, e = .returned (u.val A c) ∧ RepP w' (fun k => G k ∨ (w.heap.size ≤ k ∧ k < w'.heap.size)) u A c ∧ Below w.heap.size w w'
theorem qfl {G : Nat → Prop} {w Y : World} {u : Tm} {A : Option Addr} {c b : Nat} (hG : ∀ k, G k → k < w.heap.size) (hB : Below w.heap.size w Y) (hb : w.heap.size ≤ b) (hrep : RepP Y (fun k => G k ∨ (w.heap.size ≤ k ∧ k < Y.heap.size ∧ k ≠ b)) u A c) {x y z v : Value} :
  PutU G u w (.returned (u.val A c)) ((((Y.setCell ⟨b, 0, none⟩ x).setCell ⟨b, 1, none⟩ y).setCell ⟨b, 2, none⟩ z).setCell ⟨b, 3, none⟩ v) := by
 refine ⟨A, c, rfl, ?_, ?_⟩
 ·refine RepP.mono ?_ ?_ _ _ _ hrep
  ·rintro k (h | ⟨h1, h2, -⟩)
   ·exact .inl h
   ·exact .inr ⟨h1, by simp [World.setCell]; omega⟩
  ·intro q h1;have hne : q.block ≠ b := by
    rcases h1 with h | ⟨_, _, h⟩
    ·have := hG _ h; omega
    ·exact h
   have hq : ∀ o, (⟨b, o, none⟩ : Addr) ≠ q := fun o e => by rw [← e] at hne; exact hne rfl
   rw [World.cell?_setCell_other _ _ _ _ (hq _), World.cell?_setCell_other _ _ _ _ (hq _), World.cell?_setCell_other _ _ _ _ (hq _), World.cell?_setCell_other _ _ _ _ (hq _)]
 ·iterate 4 refine Below.setCell ?_ (by exact hb) _
  exact hB
set_option maxHeartbeats 4000000 in
theorem uput_var (b nn : Nat) (G : Nat → Prop) (s : List Bd) (t : Tm) (A : Option Addr) (c : Nat) (w : World) (hc : t.check = 0) (hk : t.kind = 1) (hG : ∀ k, G k → k < w.heap.size) (hm : MapT w b nn G s) (hrep : RepP w G t A c) :
  Calls Tryz.prog 68 #[.map (some b), t.val A c] w (PutU G (t.put s) w) := by
 rw [Tm.put_var s t hk];obtain ⟨hkids, hkey⟩ := check_keyable hc hk;obtain ⟨V, hV⟩ : ∃ V, V = (w.alloc (.cells #[.int .i64 t.kind, .string t.name, .int .i64 t.sort, .slice A t.kids.length c] 24)).alloc (.cells #[.int .i64 0, .string ⟨#[]⟩, .int .i64 0, .slice none 0 0] 24) := ⟨_, rfl⟩;have h2 : Two w t (.mk 0 ⟨#[]⟩ 0 []) A none c 0 V := by rw [hV]; exact Two.new w t (.mk 0 ⟨#[]⟩ 0 []) A none c 0
 have IV := qds t A c V;rw [show (t.kind == 1) = true by rw [beq_iff_eq]; exact hk] at IV;have IV := Lib.hid IV;have KE : Hid (∀ Z, Calls Tryz.prog 47 #[t.val A c] Z fun e w' => e = .returned (keyV t) ∧ Lay Z.heap.size Z w') := Lib.hid fun Z => qht t A c Z;have hbw := hm.lt;have hcase : ∀ Z, Lay V.heap.size V Z → _ := fun Z hZ => (hm.below (qad h2.lay.below hZ.below h2.lay.size) hbw hG).look hk hkids hkey;have HR : Hid (∀ Z, Below w.heap.size w Z → RepP Z G t A c) := Lib.hid fun Z hZ => RepP.mono (fun _ h => h) (fun p hp => hZ.cell (hG _ hp)) _ _ _ hrep;obtain ⟨a0, a1, a2, a3, -⟩ := qae h2.one;obtain ⟨z0, z1, z2, z3, -⟩ := qae h2.two;have H2 := Lib.hid h2; clear h2 hrep;have HV := Lib.hid hV; clear hV;have HC := Lib.hid hcase; clear hcase;clear hkids hkey hc hk;simp only [Tm.val] at IV KE ⊢
 go_enter Tryz.func68, Tryz.ntmps68
 go_wp2_with fail
 rw [← HV.out];go_wp2_with fail
 refine IV.out.mono ?_; clear IV a0 a1 a2 a3 z0 z1 z2 z3;rintro e w1 ⟨rfl, hl1⟩;obtain ⟨a0, a1, a2, a3, -⟩ := qae (H2.out.go hl1).one;go_wp2_with fail
 refine (KE.out w1).mono ?_; clear KE a0 a1 a2 a3;rintro e w2 ⟨rfl, hl2⟩;have hl12 := hl1.trans (hl2.mono hl1.size);have H22 := Lib.hid (H2.out.go hl12);have hcs := HC.out w2 hl12;clear hl1 hl2 hl12 HC;have hB2 := H22.out.lay.below;have HS2 := Lib.hid H22.out.lt;rcases hcs with ⟨hh, hrun⟩ | ⟨A1, c1, hh, hr1, hrun⟩
 ·simp only [qjg] at hrun;obtain ⟨X, hX⟩ : ∃ X, X = w2.alloc (.cells #[.int .i64 0, .string ⟨#[]⟩, .int .i64 0, .slice none 0 0] 24) := ⟨_, rfl⟩;have hlX : Lay w2.heap.size w2 X := by rw [hX]; exact (Lay.refl _ _).alloc (Nat.le_refl _) _
  have hsX : X.heap.size = w2.heap.size + 1 := by rw [hX]; simp
  have hux : X.heap[w2.heap.size]? = some (.cells #[.int .i64 0, .string ⟨#[]⟩, .int .i64 0, .slice none 0 0] 24 (0, 0)) := by rw [hX]; exact heap_alloc_new _ _
  have HX2 := H22.out.go hlX;obtain ⟨a0, a1, a2, a3, -⟩ := qae HX2.one;obtain ⟨z0, z1, z2, z3, zf⟩ := qae HX2.two;obtain ⟨d0, d1, d2, d3, -⟩ := qae hux;have HB := Lib.hid HX2.lay.below;clear hlX hux HX2;rw [hX] at a0 a1 a2 a3 z0 z1 z2 z3 zf d0 d1 d2 d3;have HX := Lib.hid hX; clear hX;have hg : getS s t = t := getS_noneU hh;rw [hg];go_wp2_with (at_lookup; refine qb0 rfl _ _ rfl rfl rfl hrun ?_)
  rw [← HX.out] at a0 a1 a2 a3 z0 z1 z2 z3 ⊢;have hs2 := HS2.out;refine bodyPost_ret (v := t.val A c) ?_ rfl ?_
  ·simp [results, Tryz.results68, go_sem, z0, z1, z2, z3, Tm.val]
  rw [hg];exact qfl hG HB.out (Nat.le_succ _) (RepP.mono (fun _ h => .inl h) (fun _ _ => rfl) _ _ _ (HR.out X HB.out))
 ·obtain ⟨u, hu⟩ : ∃ u, u = getS s t := ⟨_, rfl⟩;rw [← hu] at hr1 hrun ⊢;have HU := Lib.hid hu; clear hu;simp only [Tm.val] at hrun;obtain ⟨X, hX⟩ : ∃ X, X = w2.alloc (.cells #[.int .i64 u.kind, .string u.name, .int .i64 u.sort, .slice A1 u.kids.length c1] 24) := ⟨_, rfl⟩;have hlX : Lay w2.heap.size w2 X := by rw [hX]; exact (Lay.refl _ _).alloc (Nat.le_refl _) _
  have hsX : X.heap.size = w2.heap.size + 1 := by rw [hX]; simp
  have hux : X.heap[w2.heap.size]? = some (.cells #[.int .i64 u.kind, .string u.name, .int .i64 u.sort, .slice A1 u.kids.length c1] 24 (0, 0)) := by rw [hX]; exact heap_alloc_new _ _
  have HX2 := H22.out.go hlX;obtain ⟨a0, a1, a2, a3, -⟩ := qae HX2.one;obtain ⟨z0, z1, z2, z3, zf⟩ := qae HX2.two;obtain ⟨d0, d1, d2, d3, -⟩ := qae hux;have HB := Lib.hid HX2.lay.below;clear hlX hux HX2;rw [hX] at a0 a1 a2 a3 z0 z1 z2 z3 zf d0 d1 d2 d3;have HX := Lib.hid hX; clear hX;go_wp2_with (at_lookup; refine qb0 rfl _ _ rfl rfl rfl hrun ?_)
  rw [← HX.out] at a0 a1 a2 a3 z0 z1 z2 z3 ⊢;have hs2 := HS2.out;refine bodyPost_ret (v := u.val A1 c1) ?_ rfl ?_
  ·simp [results, Tryz.results68, go_sem, z0, z1, z2, z3, Tm.val]
  have hb2X : Below w2.heap.size w2 X := by rw [HX.out]; exact qaf (Nat.le_refl _) _
  rw [← HU.out];exact qfl hG HB.out (Nat.le_succ _) (RepP.mono (fun _ h => .inl h) (fun p hp => hb2X.cell (by have := hG _ hp; omega)) _ _ _ hr1)
theorem putU_same {G : Nat → Prop} {w Y : World} {u : Tm} {A : Option Addr} {c : Nat} (hG : ∀ k, G k → k < w.heap.size) (hrep : RepP w G u A c) (hB : Below w.heap.size w Y) {x y z v : Value} {b : Nat} (hb : w.heap.size ≤ b) :
  PutU G u w (.returned (u.val A c)) ((((Y.setCell ⟨b, 0, none⟩ x).setCell ⟨b, 1, none⟩ y).setCell ⟨b, 2, none⟩ z).setCell ⟨b, 3, none⟩ v) :=
 qfl hG hB hb (RepP.mono (fun _ h => .inl h) (fun _ hp => hB.cell (hG _ hp)) _ _ _ hrep)
theorem qg7 (n : Nat) : (madeCells qjg.cells (n * 4)).toList = itCells (List.replicate n ((Tm.mk 0 ⟨#[]⟩ 0 [], none, 0) : It)) := by
 have hz : qjg.cells = #[.int .i64 0, .string ⟨#[]⟩, .int .i64 0, .slice none 0 0] := rfl;rw [hz];refine List.ext_getElem? fun j => ?_;by_cases hj : j < n * 4
 ·obtain ⟨i, r, hr, rfl⟩ : ∃ i r, r < 4 ∧ j = i * 4 + r := ⟨j / 4, j % 4, Nat.mod_lt _ (by decide), by omega⟩;have g := qcs (List.replicate n ((Tm.mk 0 ⟨#[]⟩ 0 [], none, 0) : It)) i (by rw [List.length_replicate]; omega);simp only [List.getElem_replicate] at g;obtain ⟨g0, g1, g2, g3⟩ := g;have e : ∀ z : Array Value, z.size = 4 → (madeCells z (n * 4)).toList[i * 4 + r]? = some (z[r]!) := fun z hz => by
   have : (i * 4 + r) % 4 = r := by omega
   simp [madeCells, hz, hj, this]
  rw [e _ rfl]
  match r, hr with
  | 0, _ => exact g0.symm
  | 1, _ => exact g1.symm
  | 2, _ => exact g2.symm
  | 3, _ => exact g3.symm
 ·rw [List.getElem?_eq_none (by simp [madeCells]; omega), List.getElem?_eq_none (by rw [qa4, List.length_replicate]; omega)]
set_option maxHeartbeats 4000000 in
theorem qml (b nn : Nat) (G : Nat → Prop) (s : List Bd) (n : Nat) : ∀ (t : Tm) (A : Option Addr) (c : Nat) (w : World), t.size ≤ n → n ≤ 1000000 → t.check = 0 → (∀ k, G k → k < w.heap.size) → MapT w b nn G s → RepP w G t A c →
  Calls Tryz.prog 68 #[.map (some b), t.val A c] w (PutU G (t.put s) w) := by
 have mixed : Tryz.prog.follows .mixedOrders = true := by kernel_rfl
 induction n with
 | zero => intro t _ _ _ h; have := t.size_pos; omega
 | succ n ih =>
  intro t A cap w hn hb hchk hG hm hrep;by_cases hk : t.kind = 1
  ·exact uput_var b nn G s t A cap w hchk hk hG hm hrep
  obtain ⟨tk, tn, ts, l⟩ := t;have hk' : tk ≠ 1 := hk;have hchl : ∀ u ∈ l, u.check = 0 := fun u hu => by
   rcases qb5 hchk with ⟨-, rfl⟩ | ⟨-, -, hc⟩
   ·simp at hu
   ·exact qbg.1 hc u hu
  rw [Tm.put_app s tk tn ts l hk'];have kq : (tk == 1) = false := by rw [beq_eq_false_iff_ne]; exact hk'
  clear hk hk' hchk;rw [Tm.size] at hn;have hrep0 := hrep;rw [qbf] at hrep;obtain ⟨hr1, hr2⟩ := hrep;have hls := Tm.length_le_sizes l;obtain ⟨W1, hW1⟩ : ∃ W1, W1 = w.alloc (.cells #[.int .i64 tk, .string tn, .int .i64 ts, .slice A l.length cap] 24) := ⟨_, rfl⟩;obtain ⟨W2, hW2⟩ : ∃ W2, W2 = W1.alloc (.cells #[.int .i64 0, .string ⟨#[]⟩, .int .i64 0, .slice none 0 0] 24) := ⟨_, rfl⟩;have s1 : W1.heap.size = w.heap.size + 1 := by rw [hW1]; simp
  have s2 : W2.heap.size = w.heap.size + 1 + 1 := by rw [hW2]; simp [s1]
  have b1 : Below w.heap.size w W1 := by rw [hW1]; exact qaf (Nat.le_refl _) _
  have b2 : Below W1.heap.size W1 W2 := by rw [hW2]; exact qaf (Nat.le_refl _) _
  have hB : Below w.heap.size w W2 := b1.trans (b2.mono (by omega));have hx1 : W2.heap[w.heap.size]? = some (.cells #[.int .i64 tk, .string tn, .int .i64 ts, .slice A l.length cap] 24 (0, 0)) := by rw [b2.block _ (by omega), hW1]; exact heap_alloc_new _ _
  have hx2 : W2.heap[w.heap.size + 1]? = some (.cells #[.int .i64 0, .string ⟨#[]⟩, .int .i64 0, .slice none 0 0] 24 (0, 0)) := by rw [hW2, ← s1]; exact heap_alloc_new _ _
  have HW : Hid (W2 = (w.alloc (.cells #[.int .i64 tk, .string tn, .int .i64 ts, .slice A l.length cap] 24)).alloc (.cells #[.int .i64 0, .string ⟨#[]⟩, .int .i64 0, .slice none 0 0] 24)) := by rw [hW2, hW1]; exact rfl
  have IV := qds (.mk tk tn ts l) A cap W2;rw [show ((Tm.mk tk tn ts l).kind == 1) = false from kq] at IV;have IV := Lib.hid IV;obtain ⟨r0, r1, r2, r3, -⟩ := qae hx1;have HX1 := Lib.hid hx1; clear hx1;have HX2 := Lib.hid hx2; clear hx2;have HB := Lib.hid hB; clear hB b1 b2 hW1 hW2 s1;have IH := Lib.hid ih; clear ih;have HG := Lib.hid hG; clear hG;have HMP := Lib.hid hm; clear hm;have HRL := Lib.hid hr2; clear hr2;have HCH := Lib.hid hchl; clear hchl;simp only [Tm.val, Tm.kind, Tm.name, Tm.sort, Tm.kids] at IV ⊢;go_enter Tryz.func68, Tryz.ntmps68
  go_wp2_with fail
  rw [← HW.out];go_wp2_with fail
  refine IV.out.mono ?_; clear IV r0 r1 r2 r3 HW;rintro e w3 ⟨rfl, hl3⟩;have hs3 := hl3.size;have hy1 := (hl3.below.block w.heap.size (by omega)).trans HX1.out;have hy2 := (hl3.below.block (w.heap.size + 1) (by omega)).trans HX2.out;have HB3 := Lib.hid (HB.out.trans (hl3.below.mono (by omega))); clear HB HX1 HX2 hl3;obtain ⟨r0, r1, r2, r3, rf⟩ := qae hy1;obtain ⟨z0, z1, z2, z3, zf⟩ := qae hy2;by_cases h0 : l = []
  ·subst h0;have HRP := Lib.hid hrep0; clear hrep0;clear hy1 hy2;go_wp2_with fail
   refine bodyPost_ret (v := .agg #[.int .i64 tk, .string tn, .int .i64 ts, .slice A 0 cap]) ?_ rfl ?_
   ·simp [results, Tryz.results68, go_sem, z0, z1, z2, z3]
   exact putU_same HG.out HRP.out HB3.out (Nat.le_succ _)
  clear hrep0;have hpos : 0 < l.length := List.length_pos_iff.2 h0;have q0 : ((l.length : Int) == 0) = false := by rw [beq_eq_false_iff_ne]; omega
  have HY1 := Lib.hid hy1; clear hy1;have HY2 := Lib.hid hy2; clear hy2;obtain ⟨i0, hi0, hz0, hz1, hz2⟩ := info_parts qca;go_wp2_with (at_make; refine wpList_make_full w3 rfl _ _ 22 rfl W2.heap.size 24 i0 (.agg #[.int .i64 0, .string ⟨#[]⟩, .int .i64 0, .slice none 0 0]) 4 Tryz.underlying22 hi0 hz0 hz1 _ _ _ _ l.length rfl rfl rfl rfl (by rw [hz2]; omega) (by unfold maxLen; omega) hs3 ?_)
  intro w4 hown hgr;obtain ⟨g, hg⟩ : ∃ g, g = w3.heap.size := ⟨_, rfl⟩;have hrow0 : RowT w4 W2.heap.size (fun k => G k ∨ W2.heap.size ≤ k) (.slice (some ⟨g, 0, none⟩) l.length l.length) (List.replicate l.length ((Tm.mk 0 ⟨#[]⟩ 0 [], none, 0) : It)) :=
   ⟨by rw [List.length_replicate, ← qg7, hg, s2]; exact hown, fun x hx => by obtain rfl := List.eq_of_mem_replicate hx; exact qjk _ _ _ (Nat.zero_le _)⟩
  have hb4 : Below w3.heap.size w3 w4 := (Below.refl w3.heap.size w3).grown hgr (Nat.le_refl _) (fun j e => by cases e);have HB4 := Lib.hid (HB3.out.trans (hb4.mono (by omega)));have hy1 := (hb4.block w.heap.size (by omega)).trans HY1.out;have hy2 := (hb4.block (w.heap.size + 1) (by omega)).trans HY2.out;have HROW0 := Lib.hid hrow0; clear hrow0 hown;clear r0 r1 r2 r3 rf z0 z1 z2 z3 zf HY1 HY2 HB3;have HY1 := Lib.hid hy1;have HY2 := Lib.hid hy2;obtain ⟨r0, r1, r2, r3, rf⟩ := qae hy1;clear hy1 hy2 hgr hb4 hi0 hz0 hz1 hz2;rw [← hg];have hgw : W2.heap.size ≤ g := by omega
  clear hg;go_wp2_with fail
  clear r0 r1 r2 r3 rf;go_loopw [34] (fun a wr => ∃ (i : Nat) (cur : List It), a = .int .i64 i ∧ i ≤ l.length ∧ cur.length = l.length ∧ Hid (RowT wr W2.heap.size (fun k => G k ∨ W2.heap.size ≤ k) (.slice (some ⟨g, 0, none⟩) l.length l.length) cur) ∧
    Hid (∀ j, (h : j < cur.length) → (h' : j < l.length) → j < i → cur[j].1 = l[j].put s) ∧ Hid (Below w.heap.size w wr) ∧
    Hid (wr.heap[w.heap.size]? = some (.cells #[.int .i64 tk, .string tn, .int .i64 ts, .slice A l.length cap] 24 (0, 0))) ∧ Hid (wr.heap[w.heap.size + 1]? = some (.cells #[.int .i64 0, .string ⟨#[]⟩, .int .i64 0, .slice none 0 0] 24 (0, 0))))
   (fun a _ => l.length - (intOf a).toNat)
  case atStart => exact ⟨0, _, rfl, Nat.zero_le _, by simp, HROW0.out, fun j _ _ h => absurd h (Nat.not_lt_zero j), HB4.out, HY1.out, HY2.out⟩
  case round =>
   clear HROW0 HB4 HY1 HY2;obtain ⟨i, cur, rfl, hi, hcl, HR, HM, HBW, HT, HC⟩ := hrel;have hsw := (Array.getElem?_eq_some_iff.1 HC.out).1;by_cases hlt : i < l.length
   ·have hic : i < cur.length := by omega
    have hgl := HR.out.lt g rfl;rcases HRL.out.2.2 with h | ⟨kb, off, hA, hGb, hl⟩
    ·exact absurd h h0
    subst hA;have hkb := HG.out kb hGb;have hws := HBW.out.size;have hlr : qal wr G l kb off := qal.mono (fun _ h => h) (fun p hp => HBW.out.cell (HG.out _ hp)) _ _ _ hGb hl;obtain ⟨Ai, ci, k0, k1, k2, k3, hri⟩ := hlr.get i hlt;have hsz : l[i].size ≤ n := by have := Tm.sizes_get l i hlt; omega
    have hch := HCH.out l[i] (List.getElem_mem hlt);obtain ⟨u, hu⟩ : ∃ u, u = l[i] := ⟨_, rfl⟩;rw [← hu] at k0 k1 k2 k3 hri hsz hch;have HU := Lib.hid hu; clear hu;obtain ⟨X, hX⟩ : ∃ X, X = wr.alloc (.cells #[.int .i64 u.kind, .string u.name, .int .i64 u.sort, .slice Ai u.kids.length ci] 24) := ⟨_, rfl⟩;have hbX : Below wr.heap.size wr X := by rw [hX]; exact qaf (Nat.le_refl _) _
    have hsX : X.heap.size = wr.heap.size + 1 := by rw [hX]; simp
    have hxb : X.heap[wr.heap.size]? = some (.cells #[.int .i64 u.kind, .string u.name, .int .i64 u.sort, .slice Ai u.kids.length ci] 24 (0, 0)) := by rw [hX]; exact heap_alloc_new _ _
    have hwX : Below w.heap.size w X := HBW.out.trans (hbX.mono hws);have CL := Lib.hid (IH.out u Ai ci X hsz (by omega) hch (fun k hk => by have := HG.out k hk; omega) (HMP.out.below hwX HMP.out.lt HG.out) (RepP.mono (fun _ h => h) (fun p hp => hbX.cell (by have := HG.out _ hp; omega)) _ _ _ hri));obtain ⟨d0, d1, d2, d3, -⟩ := qae hxb;rw [hX] at d0 d1 d2 d3;have HX := Lib.hid hX; clear hX;have HBX := Lib.hid hbX; clear hbX hxb hwX hlr hl;have i1 : (0 : Int) ≤ (i : Int) := Int.natCast_nonneg _;have i2 : (i : Int) < (l.length : Int) := by omega
    simp only [Tm.val] at CL;go_wp2_with fail
    rw [← HX.out];refine CL.out.mono ?_; clear CL k0 k1 k2 k3 d0 d1 d2 d3;rintro e w5 ⟨A5, c5, rfl, hrep, hbel⟩;have hs5 := hbel.size;have hb5 : Below wr.heap.size wr w5 := qad HBX.out hbel HBX.out.size;have hR5 := HR.out.below hb5;obtain ⟨m0, m1, m2, m3, m4⟩ := hR5.slot hcl.symm i hic;have hX5 : RepP w5 (fun k => (G k ∨ W2.heap.size ≤ k) ∧ k < w5.heap.size ∧ g ≠ k) (u.put s) A5 c5 := RepP.mono (fun k h => by
     rcases h with h | ⟨h1, h2⟩
     ·have := HG.out k h; exact ⟨.inl h, by omega, by omega⟩
     ·exact ⟨.inr (by omega), h2, by omega⟩) (fun _ _ => rfl) _ _ _ hrep
    have hset := hR5.set hcl.symm i (by omega) (u.put s, A5, c5) hX5;have hBW5 : Below w.heap.size w w5 := HBW.out.trans (hb5.mono hws);have hT5 := (hb5.block _ (by omega)).trans HT.out;have hC5 := (hb5.block _ (by omega)).trans HC.out;have HSE := Lib.hid hset; clear hset;have HBW5 := Lib.hid hBW5; clear hBW5;have HT5 := Lib.hid hT5; clear hT5;have HC5 := Lib.hid hC5; clear hC5;clear hrep hR5 hbel hb5 HBX hX5;generalize cur[i] = old at m0 m1 m2 m3;simp only [Tm.val];go_wp2_with fail
    go_roundw
    case rel =>
     refine ⟨i + 1, cur.set i (u.put s, A5, c5), by go_num, by omega, by rw [List.length_set]; exact hcl, HSE.out, ?_, ?_, ?_, ?_⟩
     ·intro j h h' hj;have h2 : j < cur.length := by simpa using h
      rw [List.getElem_set];by_cases hij : i = j
      ·subst hij;rw [if_pos rfl];show u.put s = l[i].put s;rw [HU.out]
      ·rw [if_neg hij];exact HM.out j h2 h' (by omega)
     ·iterate 4 refine Below.setCell ?_ (by show w.heap.size ≤ g; omega) _
      exact HBW5.out
     ·iterate 4 rw [Below.heap_setCell _ _ _ _ (by show w.heap.size ≠ g; omega)]
      exact HT5.out
     ·iterate 4 rw [Below.heap_setCell _ _ _ _ (by show w.heap.size + 1 ≠ g; omega)]
      exact HC5.out
    case measure => simp [intOf]; omega
   ·obtain rfl : i = l.length := by omega
    obtain ⟨t0, t1, t2, t3, tf⟩ := qae HT.out;obtain ⟨c0, c1, c2, c3, cf⟩ := qae HC.out;have hgl := HR.out.lt g rfl;obtain ⟨A7, c7, he, hS⟩ := HR.out.toS (P := fun k => G k ∨ (W2.heap.size ≤ k ∧ k < wr.heap.size)) (fun k h h' => h.imp id (fun h => ⟨h, h'⟩)) (fun k h h' => .inr ⟨h, h'⟩);injection he with he1 he2 he3;subst he1 he3;have hmap : cur.map (·.1) = Tm.puts s l := by
     rw [Tm.puts_eq];refine List.ext_getElem (by simp [hcl]) fun j h1 h2 => ?_;have hj : j < cur.length := by simpa using h1
     have := HM.out j hj (by omega) (by omega);simp [this]
    have hpl := Tm.puts_length s l;rw [hmap] at hS;have HS := Lib.hid hS; clear hS he2 hmap;have HPL := Lib.hid hpl; clear hpl;go_wp2_with fail
    refine bodyPost_ret (v := .agg #[.int .i64 tk, .string tn, .int .i64 ts, .slice (some ⟨g, 0, none⟩) l.length l.length]) ?_ rfl ?_
    ·simp [results, Tryz.results68, go_sem, c0, c1, c2, c3]
    have e : (Value.agg #[.int .i64 tk, .string tn, .int .i64 ts, .slice (some ⟨g, 0, none⟩) l.length l.length]) = (Tm.mk tk tn ts (Tm.puts s l)).val (some ⟨g, 0, none⟩) l.length := by
     simp only [Tm.val, Tm.kind, Tm.name, Tm.sort, Tm.kids, HPL.out]
    rw [e];refine qfl HG.out ?_ (Nat.le_succ _) ?_
    ·exact HBW.out.setCell (p := ⟨w.heap.size, 3, none⟩) (Nat.le_refl _) _
    ·rw [qbf];refine ⟨hr1, RepS.mono ?_ ?_ HS.out⟩
     ·rintro k (h | ⟨h1, h2⟩)
      ·exact .inl h
      ·exact .inr ⟨by omega, by simpa [World.setCell] using h2, by omega⟩
     ·intro q h1;have hne : q.block ≠ w.heap.size := by
       rcases h1 with h | ⟨h, _⟩
       ·have := HG.out _ h; omega
       ·omega
      exact World.cell?_setCell_other _ _ _ _ (fun e => hne (by rw [← e]))
structure Elem8 (S T : TypeId) : Prop where
 und : Tryz.prog.underlying S = Option.some (.slice T)
 info : (Tryz.prog.info? T).map (fun i => (i.zero, i.size, i.bytes)) = Option.some (Option.some (.agg #[.int .i64 0, .string ⟨#[]⟩, .int .i64 0, .slice none 0 0, .int .i64 0, .string ⟨#[]⟩, .int .i64 0, .slice none 0 0]), 8, 112)
theorem qg4 : Elem8 54 53 := ⟨Tryz.underlying54, by kernel_rfl⟩
theorem qg5 : Elem8 27 48 := ⟨Tryz.underlying27, by kernel_rfl⟩
structure RowG (T : TypeId) (w : World) (base : Nat) (F : Nat → Prop) (v : Value) (its : List IB) : Prop where
 own : w.ownsRow base T 8 v its.length (bCells its)
 reps : ∀ x ∈ its, RepP w (fun b => F b ∧ b < w.heap.size ∧ v.ownBlock ≠ Option.some b) x.1.1 x.1.2.1 x.1.2.2 ∧ RepP w (fun b => F b ∧ b < w.heap.size ∧ v.ownBlock ≠ Option.some b) x.2.1 x.2.2.1 x.2.2.2
theorem RowG.bindB {w : World} {base : Nat} {F : Nat → Prop} {v : Value} {its : List IB} (h : RowG 48 w base F v its) : RowB w base F v its := ⟨h.own, h.reps⟩
section
variable {T : TypeId} {w w' : World} {base : Nat} {F : Nat → Prop} {v : Value} {its : List IB}
theorem RowG.nil (T : TypeId) (w : World) (base : Nat) (F : Nat → Prop) : RowG T w base F (.slice none 0 0) [] := ⟨World.ownsRow_nil _ _ _ _, by simp⟩
theorem RowG.keep (h : RowG T w base F v its) (hs : w.heap.size ≤ w'.heap.size)
  (hc : ∀ b, b < w.heap.size → (F b ∨ v.ownBlock = Option.some b) → w'.heap[b]? = w.heap[b]?) : RowG T w' base F v its := by
 refine ⟨⟨h.own.1, ?_⟩, fun x hx => ?_⟩
 ·rcases h.own.2 with hn | ⟨g, cap, cur, rfl, hb, hg, r⟩
  ·exact .inl hn
  ·have hlt : g < w.heap.size := (Array.getElem?_eq_some_iff.1 hg).1;exact .inr ⟨g, cap, cur, rfl, hb, by rw [hc g hlt (Or.inr rfl)]; exact hg, r⟩
 ·have key : ∀ (t : Tm) A c, RepP w (fun b => F b ∧ b < w.heap.size ∧ v.ownBlock ≠ Option.some b) t A c → RepP w' (fun b => F b ∧ b < w'.heap.size ∧ v.ownBlock ≠ Option.some b) t A c := fun t A c hr => by
   refine RepP.mono ?_ ?_ _ _ _ hr
   ·rintro b ⟨h1, h2, h3⟩; exact ⟨h1, by omega, h3⟩
   ·rintro p ⟨h1, h2, h3⟩; exact World.cell?_of_block (hc p.block h2 (Or.inl h1))
  exact ⟨key _ _ _ (h.reps x hx).1, key _ _ _ (h.reps x hx).2⟩
theorem RowG.below (h : RowG T w base F v its) (hb : Below w.heap.size w w') : RowG T w' base F v its :=
 h.keep hb.size (fun b hlt _ => hb.block b hlt)
theorem RowG.lt (h : RowG T w base F v its) : ∀ k, v.ownBlock = Option.some k → base ≤ k ∧ k < w.heap.size := h.own.lt
theorem RowG.toB {P : Nat → Prop} (h : RowG T w base F v its) (hF : ∀ b, F b → b < w.heap.size → v.ownBlock ≠ Option.some b → P b) (hP : ∀ b, v.ownBlock = Option.some b → P b) :
  ∃ A cap, v = .slice A its.length cap ∧ RepB w P (its.map IB.bd) A cap := by
 rcases h.own.2 with ⟨rfl, h0⟩ | ⟨g, cap, cur, rfl, hb, hg, hnc, hcm, r⟩
 ·have : its = [] := List.eq_nil_of_length_eq_zero h0;subst this;exact ⟨none, 0, rfl, by simp, by simp [maxLen], .inl rfl⟩
 ·refine ⟨Option.some ⟨g, 0, none⟩, cap, rfl, by simpa using hnc, hcm, .inr ⟨g, 0, rfl, hP g rfl, ?_⟩⟩;rw [← qfw];refine qal.of_its (bits its) g 0 (fun j u hj => ?_) (fun y hy => ?_)
  ·have := h.own.cells (g := g) rfl j u hj;simpa [Addr.add] using (by
    unfold Addr.add at this
    split at this <;> simp_all)
  ·obtain ⟨x, hx, e⟩ := qg3 hy;rcases e with rfl | rfl
   ·exact RepP.mono (fun b ⟨h1, h2, h3⟩ => hF b h1 h2 h3) (fun _ _ => rfl) _ _ _ (h.reps x hx).1
   ·exact RepP.mono (fun b ⟨h1, h2, h3⟩ => hF b h1 h2 h3) (fun _ _ => rfl) _ _ _ (h.reps x hx).2
theorem RowG.more {S : TypeId} (E : Elem8 S T) (hrow : RowG T w base F v its) (hbase : base ≤ w.heap.size) (news : List IB) (hne : 0 < news.length) (B off c : Nat)
  (hcells : ∀ j u, (bCells news)[j]? = Option.some u → w.cell? ⟨B, off + j, none⟩ = Option.some u)
  (hreps : ∀ x ∈ news, RepP w (fun b => F b ∧ b < w.heap.size ∧ v.ownBlock ≠ Option.some b) x.1.1 x.1.2.1 x.1.2.2 ∧ RepP w (fun b => F b ∧ b < w.heap.size ∧ v.ownBlock ≠ Option.some b) x.2.1 x.2.2.1 x.2.2.2) (hlen : its.length + news.length ≤ 100000000) :
  ∃ g cap w', (∀ ty, (Builtin.append_ #[S, S] ty #[v, .slice (Option.some ⟨B, off, none⟩) news.length c]).run Tryz.prog w = .ok (.slice (Option.some ⟨g, 0, none⟩) (its.length + news.length) cap) w') ∧
   RowG T w' base F (.slice (Option.some ⟨g, 0, none⟩) (its.length + news.length) cap) (its ++ news) ∧ w.grownBy w' v.ownBlock ∧ (v.ownBlock = Option.some g ∨ g = w.heap.size) := by
 obtain ⟨i0, hi0, hz0, hz1, hz2⟩ := info_parts E.info;obtain ⟨g, cap, w', h1, h2, h3, h4, h5⟩ := run_append_lies (P := Tryz.prog) w S 0 base T i0 _ 8 112 E.und hi0 hz0 hz1 hz2 rfl (by omega) v its.length (bCells its) hrow.own ⟨B, off, none⟩ news.length c (bCells news) (qa6 _)
  (fun j u hu => by
   have h := hcells j u hu;unfold Addr.add
   split
   ·rename_i hj; subst hj; simpa using h
   ·exact h) (qdv news) hne (by unfold maxLen; omega) (by omega) hbase w.heap.size rfl
 have hg : g = w.heap.size ∨ v.ownBlock = Option.some g := by rcases h4 with h | h; exact .inr h; exact .inl h
 refine ⟨g, cap, w', fun ty => h1, ⟨by rw [qcn, List.length_append]; exact h2, fun x hx => ?_⟩, h3, h4⟩;have key : ∀ (t : Tm) A c, RepP w (fun b => F b ∧ b < w.heap.size ∧ v.ownBlock ≠ Option.some b) t A c → RepP w' (fun b => F b ∧ b < w'.heap.size ∧ (Value.slice (Option.some ⟨g, 0, none⟩) (its.length + news.length) cap).ownBlock ≠ Option.some b) t A c := fun t A c hr => by
  refine RepP.mono ?_ ?_ _ _ _ hr
  ·rintro b ⟨k1, k2, k3⟩;refine ⟨k1, Nat.lt_of_lt_of_le k2 h3.size, fun e => ?_⟩;have e' : g = b := by injection e
   rcases hg with h | h
   ·omega
   ·rw [e'] at h; exact k3 h
  ·rintro p ⟨k1, k2, k3⟩;exact World.cell?_of_block (h3.block p.block k2 (fun e => k3 e.symm))
 rcases List.mem_append.1 hx with hx | hx
 ·exact ⟨key _ _ _ (hrow.reps x hx).1, key _ _ _ (hrow.reps x hx).2⟩
 ·exact ⟨key _ _ _ (hreps x hx).1, key _ _ _ (hreps x hx).2⟩
theorem RowG.more1 {S : TypeId} (E : Elem8 S T) (hrow : RowG T w base F v its) (hbase : base ≤ w.heap.size) (X : IB)
  (h1 : RepP w (fun b => F b ∧ b < w.heap.size ∧ v.ownBlock ≠ Option.some b) X.1.1 X.1.2.1 X.1.2.2) (h2 : RepP w (fun b => F b ∧ b < w.heap.size ∧ v.ownBlock ≠ Option.some b) X.2.1 X.2.2.1 X.2.2.2) (hlen : its.length + 1 ≤ 100000000) :
  ∃ g c' w', (∀ ty, (Builtin.append_ #[S, S] ty #[v, .slice (Option.some ⟨w.heap.size, 0, none⟩) 1 1]).run Tryz.prog (w.alloc (.cells #[.int .i64 X.1.1.kind, .string X.1.1.name, .int .i64 X.1.1.sort, .slice X.1.2.1 X.1.1.kids.length X.1.2.2, .int .i64 X.2.1.kind, .string X.2.1.name, .int .i64 X.2.1.sort, .slice X.2.2.1 X.2.1.kids.length X.2.2.2] T)) = .ok (.slice (Option.some ⟨g, 0, none⟩) (its.length + 1) c') w') ∧
   RowG T w' base F (.slice (Option.some ⟨g, 0, none⟩) (its.length + 1) c') (its ++ [X]) ∧ (∀ W0 B0, Below B0 W0 w → B0 ≤ base → Below B0 W0 w') ∧ (∀ k, k < w.heap.size → v.ownBlock ≠ Option.some k → w'.heap[k]? = w.heap[k]?) ∧ w.heap.size ≤ w'.heap.size ∧ (v.ownBlock = Option.some g ∨ w.heap.size ≤ g) := by
 obtain ⟨W6, hW6⟩ : ∃ W6, W6 = w.alloc (.cells (bCells [X]).toArray T) := ⟨_, rfl⟩;have hb6 : Below w.heap.size w W6 := by rw [hW6]; exact qaf (Nat.le_refl _) _
 have hs6 : W6.heap.size = w.heap.size + 1 := by rw [hW6]; simp
 have hx6 : W6.heap[w.heap.size]? = Option.some (.cells (bCells [X]).toArray T (0, 0)) := by rw [hW6]; exact heap_alloc_new _ _
 have key : ∀ (t : Tm) A c, RepP w (fun b => F b ∧ b < w.heap.size ∧ v.ownBlock ≠ Option.some b) t A c → RepP W6 (fun b => F b ∧ b < W6.heap.size ∧ v.ownBlock ≠ Option.some b) t A c := fun t A c h =>
  RepP.mono (fun b hb => ⟨hb.1, by have := hb.2.1; omega, hb.2.2⟩) (fun p hp => hb6.cell hp.2.1) _ _ _ h
 obtain ⟨g, cap, w', e1, e2, e3, e4⟩ := (hrow.below hb6).more E (by omega) [X] (by simp) w.heap.size 0 1 (fun j u hu => by
  rw [Nat.zero_add, cell_of_row W6 w.heap.size j _ _ _ hx6]; simpa using hu) (fun x hx => by
   rw [List.mem_singleton] at hx; subst hx; exact ⟨key _ _ _ h1, key _ _ _ h2⟩) hlen
 simp only [bCells, bits, itCells, Tm.cells, List.cons_append, List.nil_append] at hW6;rw [hW6] at e1;have hsz := e3.size;refine ⟨g, cap, w', e1, e2, fun W0 B0 hB hB0 => ?_, fun k hk hne => ?_, by omega, e4.imp id (fun h => by omega)⟩
 ·have hbs := hB.size;exact (hB.trans (hb6.mono (by omega))).grown e3 (by omega) (fun j e => by have := (hrow.lt _ e).1; omega)
 ·rw [e3.block k (by omega) (fun e => hne e.symm)];exact hb6.block k hk
theorem qnb : ∀ (its : List IB) (i : Nat) (h : i < its.length), (bits its)[2 * i]? = Option.some its[i].1 ∧ (bits its)[2 * i + 1]? = Option.some its[i].2
 | [], _, h => by simp at h
 | x :: r, 0, _ => by simp [bits]
 | x :: r, i + 1, h => by
  have g := qnb r i (by simpa using h);simp only [bits, show 2 * (i + 1) = 2 * i + 1 + 1 by omega, List.getElem?_cons_succ, List.getElem_cons_succ];exact g
theorem qj1 : ∀ (its : List IB) (i : Nat) (h : i < its.length) (X : It), (bits its).set (2 * i) X = bits (its.set i (X, its[i].2)) ∧ (bits its).set (2 * i + 1) X = bits (its.set i (its[i].1, X))
 | [], _, h, _ => by simp at h
 | x :: r, 0, _, X => by simp [bits]
 | x :: r, i + 1, h, X => by
  have g := qj1 r i (by simpa using h) X;simp only [bits, show 2 * (i + 1) = 2 * i + 1 + 1 by omega, List.set_cons_succ, List.getElem_cons_succ];exact ⟨by rw [g.1], by rw [g.2]⟩
theorem RowG.slot {g cap n : Nat} (h : RowG T w base F (.slice (Option.some ⟨g, 0, none⟩) n cap) its) (i : Nat) (hi : i < its.length) :
  (w.cell? ⟨g, i * 8, none⟩ = Option.some (.int .i64 its[i].1.1.kind) ∧ w.cell? ⟨g, i * 8 + 1, none⟩ = Option.some (.string its[i].1.1.name) ∧ w.cell? ⟨g, i * 8 + 2, none⟩ = Option.some (.int .i64 its[i].1.1.sort) ∧
   w.cell? ⟨g, i * 8 + 3, none⟩ = Option.some (.slice its[i].1.2.1 its[i].1.1.kids.length its[i].1.2.2)) ∧
  (w.cell? ⟨g, i * 8 + 4, none⟩ = Option.some (.int .i64 its[i].2.1.kind) ∧ w.cell? ⟨g, i * 8 + 4 + 1, none⟩ = Option.some (.string its[i].2.1.name) ∧ w.cell? ⟨g, i * 8 + 4 + 2, none⟩ = Option.some (.int .i64 its[i].2.1.sort) ∧
   w.cell? ⟨g, i * 8 + 4 + 3, none⟩ = Option.some (.slice its[i].2.2.1 its[i].2.1.kids.length its[i].2.2.2)) ∧ ∀ o, w.frozen? ⟨g, o, none⟩ = false := by
 have hc : ∀ j u, (bCells its)[j]? = Option.some u → w.cell? ⟨g, j, none⟩ = Option.some u := fun j u hj => by
  have := h.own.cells (g := g) rfl j u hj;unfold Addr.add at this
  split at this <;> simp_all
 obtain ⟨b0, b1⟩ := qnb its i hi;have hl := qd3 its;have l0 : 2 * i < (bits its).length := by omega
 have l1 : 2 * i + 1 < (bits its).length := by omega
 rw [List.getElem?_eq_getElem l0] at b0;rw [List.getElem?_eq_getElem l1] at b1;injection b0 with b0;injection b1 with b1;have g0 := qcs (bits its) (2 * i) l0;have g1 := qcs (bits its) (2 * i + 1) l1;rw [b0, show 2 * i * 4 = i * 8 by omega] at g0;rw [b1, show (2 * i + 1) * 4 = i * 8 + 4 by omega] at g1;refine ⟨⟨hc _ _ g0.1, hc _ _ g0.2.1, hc _ _ g0.2.2.1, hc _ _ g0.2.2.2⟩, ⟨hc _ _ g1.1, hc _ _ g1.2.1, hc _ _ g1.2.2.1, hc _ _ g1.2.2.2⟩, fun o => ?_⟩;rcases h.own.2 with ⟨hv, _⟩ | ⟨g', cap', cur, hv, hb, hg, _⟩
 ·cases hv
 ·injection hv with h1;injection h1 with h1;injection h1 with h1;subst h1;simp [World.frozen?, hg]
theorem RowG.set0 {g cap n : Nat} (h : RowG T w base F (.slice (Option.some ⟨g, 0, none⟩) n cap) its) (hn : n = its.length) (i : Nat) (hi : i < its.length) (X : It) (hX : RepP w (fun b => F b ∧ b < w.heap.size ∧ g ≠ b) X.1 X.2.1 X.2.2) :
  RowG T ((((w.setCell ⟨g, i * 8, none⟩ (.int .i64 X.1.kind)).setCell ⟨g, i * 8 + 1, none⟩ (.string X.1.name)).setCell ⟨g, i * 8 + 2, none⟩ (.int .i64 X.1.sort)).setCell ⟨g, i * 8 + 3, none⟩ (.slice X.2.1 X.1.kids.length X.2.2))
   base F (.slice (Option.some ⟨g, 0, none⟩) n cap) (its.set i (X, its[i].2)) := by
 subst hn;have hown := own_set (own_set (own_set (own_set h.own (i * 8) (.int .i64 X.1.kind)) (i * 8 + 1) (.string X.1.name)) (i * 8 + 2) (.int .i64 X.1.sort)) (i * 8 + 3) (.slice X.2.1 X.1.kids.length X.2.2);have hl := qd3 its;have e := itCells_set (bits its) (2 * i) X (by omega);rw [show 2 * i * 4 = i * 8 by omega, (qj1 its i hi X).1] at e;unfold bCells at hown;rw [e] at hown;refine ⟨by rw [List.length_set]; exact hown, fun x hx => ?_⟩;have key : ∀ (t : Tm) A c, RepP w (fun b => F b ∧ b < w.heap.size ∧ g ≠ b) t A c → RepP ((((w.setCell ⟨g, i * 8, none⟩ (.int .i64 X.1.kind)).setCell ⟨g, i * 8 + 1, none⟩ (.string X.1.name)).setCell ⟨g, i * 8 + 2, none⟩ (.int .i64 X.1.sort)).setCell ⟨g, i * 8 + 3, none⟩ (.slice X.2.1 X.1.kids.length X.2.2))
   (fun b => F b ∧ b < ((((w.setCell ⟨g, i * 8, none⟩ (.int .i64 X.1.kind)).setCell ⟨g, i * 8 + 1, none⟩ (.string X.1.name)).setCell ⟨g, i * 8 + 2, none⟩ (.int .i64 X.1.sort)).setCell ⟨g, i * 8 + 3, none⟩ (.slice X.2.1 X.1.kids.length X.2.2)).heap.size ∧ (Value.slice (Option.some ⟨g, 0, none⟩) its.length cap).ownBlock ≠ Option.some b) t A c := fun t A c hr => by
  refine RepP.mono ?_ ?_ _ _ _ hr
  ·rintro b ⟨h1, h2, h3⟩;exact ⟨h1, by simpa [World.setCell] using h2, fun e => h3 (by injection e)⟩
  ·rintro p ⟨h1, h2, h3⟩;have hq : ∀ o, (⟨g, o, none⟩ : Addr) ≠ p := fun o e => h3 (by rw [← e]);rw [World.cell?_setCell_other _ _ _ _ (hq _), World.cell?_setCell_other _ _ _ _ (hq _), World.cell?_setCell_other _ _ _ _ (hq _), World.cell?_setCell_other _ _ _ _ (hq _)]
 have old : ∀ (t : Tm) A c, RepP w (fun b => F b ∧ b < w.heap.size ∧ (Value.slice (Option.some ⟨g, 0, none⟩) its.length cap).ownBlock ≠ Option.some b) t A c → RepP w (fun b => F b ∧ b < w.heap.size ∧ g ≠ b) t A c := fun t A c hr =>
  RepP.mono (fun b ⟨h1, h2, h3⟩ => ⟨h1, h2, fun e => h3 (by rw [e]; rfl)⟩) (fun _ _ => rfl) _ _ _ hr
 rcases List.mem_or_eq_of_mem_set hx with hx | rfl
 ·exact ⟨key _ _ _ (old _ _ _ (h.reps x hx).1), key _ _ _ (old _ _ _ (h.reps x hx).2)⟩
 ·exact ⟨key _ _ _ (hX), key _ _ _ (old _ _ _ (h.reps its[i] (List.getElem_mem hi)).2)⟩
theorem RowG.set1 {g cap n : Nat} (h : RowG T w base F (.slice (Option.some ⟨g, 0, none⟩) n cap) its) (hn : n = its.length) (i : Nat) (hi : i < its.length) (X : It) (hX : RepP w (fun b => F b ∧ b < w.heap.size ∧ g ≠ b) X.1 X.2.1 X.2.2) :
  RowG T ((((w.setCell ⟨g, i * 8 + 4, none⟩ (.int .i64 X.1.kind)).setCell ⟨g, i * 8 + 4 + 1, none⟩ (.string X.1.name)).setCell ⟨g, i * 8 + 4 + 2, none⟩ (.int .i64 X.1.sort)).setCell ⟨g, i * 8 + 4 + 3, none⟩ (.slice X.2.1 X.1.kids.length X.2.2))
   base F (.slice (Option.some ⟨g, 0, none⟩) n cap) (its.set i (its[i].1, X)) := by
 subst hn;have hown := own_set (own_set (own_set (own_set h.own (i * 8 + 4) (.int .i64 X.1.kind)) (i * 8 + 4 + 1) (.string X.1.name)) (i * 8 + 4 + 2) (.int .i64 X.1.sort)) (i * 8 + 4 + 3) (.slice X.2.1 X.1.kids.length X.2.2);have hl := qd3 its;have e := itCells_set (bits its) (2 * i + 1) X (by omega);rw [show (2 * i + 1) * 4 = i * 8 + 4 by omega, (qj1 its i hi X).2] at e;unfold bCells at hown;rw [e] at hown;refine ⟨by rw [List.length_set]; exact hown, fun x hx => ?_⟩;have key : ∀ (t : Tm) A c, RepP w (fun b => F b ∧ b < w.heap.size ∧ g ≠ b) t A c → RepP ((((w.setCell ⟨g, i * 8 + 4, none⟩ (.int .i64 X.1.kind)).setCell ⟨g, i * 8 + 4 + 1, none⟩ (.string X.1.name)).setCell ⟨g, i * 8 + 4 + 2, none⟩ (.int .i64 X.1.sort)).setCell ⟨g, i * 8 + 4 + 3, none⟩ (.slice X.2.1 X.1.kids.length X.2.2))
   (fun b => F b ∧ b < ((((w.setCell ⟨g, i * 8 + 4, none⟩ (.int .i64 X.1.kind)).setCell ⟨g, i * 8 + 4 + 1, none⟩ (.string X.1.name)).setCell ⟨g, i * 8 + 4 + 2, none⟩ (.int .i64 X.1.sort)).setCell ⟨g, i * 8 + 4 + 3, none⟩ (.slice X.2.1 X.1.kids.length X.2.2)).heap.size ∧ (Value.slice (Option.some ⟨g, 0, none⟩) its.length cap).ownBlock ≠ Option.some b) t A c := fun t A c hr => by
  refine RepP.mono ?_ ?_ _ _ _ hr
  ·rintro b ⟨h1, h2, h3⟩;exact ⟨h1, by simpa [World.setCell] using h2, fun e => h3 (by injection e)⟩
  ·rintro p ⟨h1, h2, h3⟩;have hq : ∀ o, (⟨g, o, none⟩ : Addr) ≠ p := fun o e => h3 (by rw [← e]);rw [World.cell?_setCell_other _ _ _ _ (hq _), World.cell?_setCell_other _ _ _ _ (hq _), World.cell?_setCell_other _ _ _ _ (hq _), World.cell?_setCell_other _ _ _ _ (hq _)]
 have old : ∀ (t : Tm) A c, RepP w (fun b => F b ∧ b < w.heap.size ∧ (Value.slice (Option.some ⟨g, 0, none⟩) its.length cap).ownBlock ≠ Option.some b) t A c → RepP w (fun b => F b ∧ b < w.heap.size ∧ g ≠ b) t A c := fun t A c hr =>
  RepP.mono (fun b ⟨h1, h2, h3⟩ => ⟨h1, h2, fun e => h3 (by rw [e]; rfl)⟩) (fun _ _ => rfl) _ _ _ hr
 rcases List.mem_or_eq_of_mem_set hx with hx | rfl
 ·exact ⟨key _ _ _ (old _ _ _ (h.reps x hx).1), key _ _ _ (old _ _ _ (h.reps x hx).2)⟩
 ·exact ⟨key _ _ _ (old _ _ _ (h.reps its[i] (List.getElem_mem hi)).1), key _ _ _ (hX)⟩
theorem qal.items {P : Nat → Prop} : ∀ {ps : List Bd} {b off : Nat}, qal w P (flat ps) b off → ∃ its : List IB, its.map IB.bd = ps ∧ (∀ j u, (bCells its)[j]? = Option.some u → w.cell? ⟨b, off + j, none⟩ = Option.some u) ∧
  ∀ x ∈ its, RepP w P x.1.1 x.1.2.1 x.1.2.2 ∧ RepP w P x.2.1 x.2.2.1 x.2.2.2
 | [], _, _, _ => ⟨[], rfl, fun j u h => by simp [bCells, bits, itCells] at h, by simp⟩
 | p :: r, b, off, h => by
  rw [flat, qal, qal] at h;obtain ⟨⟨A, c, k0, k1, k2, k3, hr1⟩, ⟨A', c', l0, l1, l2, l3, hr2⟩, h⟩ := h;obtain ⟨its, e, hc, hr⟩ := qal.items h;refine ⟨((p.1, A, c), (p.2, A', c')) :: its, by rw [List.map_cons, e]; rfl, fun j u hj => ?_, fun x hx => ?_⟩
  ·simp only [bCells, bits, itCells, Tm.cells, List.cons_append, List.nil_append] at hj
   match j with
   | 0 => simp at hj; subst hj; exact k0
   | 1 => simp at hj; subst hj; exact k1
   | 2 => simp at hj; subst hj; exact k2
   | 3 => simp at hj; subst hj; exact k3
   | 4 => simp at hj; subst hj; exact l0
   | 5 => simp at hj; subst hj; exact l1
   | 6 => simp at hj; subst hj; exact l2
   | 7 => simp at hj; subst hj; exact l3
   | j + 8 =>
    have := hc j u (by simpa [bCells] using hj);rw [show off + (j + 8) = off + 4 + 4 + j by omega]; exact this
  ·rcases List.mem_cons.1 hx with rfl | hx
   ·exact ⟨hr1, hr2⟩
   ·exact hr x hx
end
end Go.Proofs.YtpjmdilpldaapaaGreatDoor
