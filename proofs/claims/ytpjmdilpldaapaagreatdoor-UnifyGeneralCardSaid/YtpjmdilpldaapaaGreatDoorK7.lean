/- Ugen1, Umix, Usmall, Uoccurs, Gf, Uput (joined by shake.py). -/
import Derived.Test.YtpjmdilpldaapaaGreatDoorShl
import Derived.Test.YtpjmdilpldaapaaGreatDoorK1
import Derived.Test.YtpjmdilpldaapaaGreatDoorK3
import Derived.Test.YtpjmdilpldaapaaGreatDoorK4
import Derived.Test.YtpjmdilpldaapaaGreatDoorK5
import Derived.Test.YtpjmdilpldaapaaGreatDoorK6
import Derived.Lib.ItoaLen
import Derived.Lib.FrozenHead2
import Derived.Lib.OthersKept
import Derived.Lib.Hide
import Derived.StillTailTactics
import Derived.Shelf.SlSortCmp.QuietGrown
import Derived.OwnWalk
set_option maxRecDepth 100000
namespace Go.Proofs.YtpjmdilpldaapaaGreatDoor
structure GrowG (g g' : Gs) : Prop where
 ex : ∃ qs ws, g'.pairs = g.pairs ++ qs ∧ g'.vars = g.vars ++ ws ∧ qs.length = ws.length
theorem GrowG.refl (g : Gs) : GrowG g g := ⟨[], [], by simp, by simp, rfl⟩
theorem GrowG.trans {a b c : Gs} (h : GrowG a b) (k : GrowG b c) : GrowG a c := by
 obtain ⟨q1, w1, h1, h2, h3⟩ := h.ex;obtain ⟨q2, w2, k1, k2, k3⟩ := k.ex;exact ⟨q1 ++ q2, w1 ++ w2, by rw [k1, h1, List.append_assoc], by rw [k2, h2, List.append_assoc], by simp [h3, k3]⟩
theorem qmq (N : List ByteArray) (t u : Tm) (g : Gs) : GrowG g (qbz N t u g).2 := by
 unfold qbz
 split
 ·exact GrowG.refl _
 ·exact ⟨[(t, u)], [newG N t u g], rfl, rfl, rfl⟩
mutual
theorem gen_grow (N : List ByteArray) : ∀ (t u : Tm) (g : Gs), GrowG g (t.gen N u g).2
 | .mk k n s l, u, g => by
  rw [Tm.gen]
  split
  ·exact GrowG.refl _
  ·split
   ·exact qe5 N l u.kids g
   ·exact qmq N _ u g
theorem qe5 (N : List ByteArray) : ∀ (l m : List Tm) (g : Gs), GrowG g (Tm.gens N l m g).2
 | [], m, g => by rw [Tm.gens]; exact GrowG.refl _; simp
 | t :: l, [], g => by rw [Tm.gens]; exact GrowG.refl _; simp
 | t :: l, u :: m, g => by rw [Tm.gens]; exact (gen_grow N t u g).trans (qe5 N l m _)
end
theorem lookG_some {t u v : Tm} : ∀ {ps : List Bd} {vs : List Tm}, lookG t u ps vs = some v → ((t, u), v) ∈ ps.zip vs
 | [], _, h => by simp [lookG] at h
 | p :: ps, [], h => by simp [lookG] at h
 | p :: ps, w :: vs, h => by
  rw [lookG] at h;rw [List.zip_cons_cons]
  split at h
  ·rename_i e
   rw [← Option.some.inj h, ← e.1, ← e.2];exact List.mem_cons_self ..
  ·exact List.mem_cons_of_mem _ (lookG_some h)
theorem lookG_append {t u v : Tm} : ∀ {ps qs : List Bd} {vs ws : List Tm}, lookG t u ps vs = some v → lookG t u (ps ++ qs) (vs ++ ws) = some v
 | [], _, _, _, h => by simp [lookG] at h
 | p :: ps, _, [], _, h => by simp [lookG] at h
 | p :: ps, qs, w :: vs, ws, h => by
  rw [lookG] at h;rw [List.cons_append, List.cons_append, lookG]
  split
  ·rename_i e; rw [if_pos e] at h; exact h
  ·rename_i e; rw [if_neg e] at h; exact lookG_append h
theorem lookG_snoc {t u v : Tm} : ∀ {ps qs : List Bd} {vs ws : List Tm}, ps.length = vs.length → lookG t u ps vs = none → lookG t u (ps ++ (t, u) :: qs) (vs ++ v :: ws) = some v
 | [], _, [], _, _, _ => by simp [lookG]
 | p :: ps, qs, w :: vs, ws, hl, h => by
  rw [lookG] at h;rw [List.cons_append, List.cons_append, lookG]
  split
  ·rename_i e; rw [if_pos e] at h; cases h
  ·rename_i e; rw [if_neg e] at h; exact lookG_snoc (by simpa using hl) h
mutual
def Tm.genP (ps : List Bd) (vs : List Tm) : Tm → Tm → Tm
 | .mk k n s l, u => if Tm.mk k n s l = u then .mk k n s l else if qa1 (.mk k n s l) u = true then .mk k n s (Tm.gensP ps vs l u.kids) else (lookG (.mk k n s l) u ps vs).getD (.mk k n s l)
def Tm.gensP (ps : List Bd) (vs : List Tm) : List Tm → List Tm → List Tm
 | t :: l, u :: m => Tm.genP ps vs t u :: Tm.gensP ps vs l m
 | _, _ => []
end
theorem genP_eq (ps : List Bd) (vs : List Tm) (t u : Tm) : t.genP ps vs u = if t = u then t else if qa1 t u = true then .mk t.kind t.name t.sort (Tm.gensP ps vs t.kids u.kids) else (lookG t u ps vs).getD t := by
 obtain ⟨k, n, s, l⟩ := t;rw [Tm.genP]; rfl
theorem qhm {N : List ByteArray} {g G : Gs} (t u : Tm) (hl : g.vars.length = g.pairs.length) (h : GrowG (qbz N t u g).2 G) : (lookG t u G.pairs G.vars).getD t = (qbz N t u g).1 := by
 obtain ⟨qs, ws, h1, h2, -⟩ := h.ex;unfold qbz at h1 h2 ⊢
 split at h1
 ·rename_i v hv
  rw [hv] at h2;dsimp only at h2;rw [h1, h2, lookG_append hv]; rfl
 ·rename_i hv
  rw [hv] at h2;simp only [addG] at h1 h2;rw [h1, h2, List.append_assoc, List.append_assoc, List.singleton_append, List.singleton_append, lookG_snoc hl.symm hv]; rfl
mutual
theorem qll {N : List ByteArray} {G : Gs} : ∀ (t u : Tm) (g : Gs), GsOk N g → GrowG (t.gen N u g).2 G → t.genP G.pairs G.vars u = (t.gen N u g).1
 | .mk k n s l, u, g, hg, h => by
  rw [Tm.gen] at h ⊢;rw [Tm.genP];by_cases h1 : Tm.mk k n s l = u
  ·rw [if_pos h1, if_pos h1]
  ·rw [if_neg h1] at h;rw [if_neg h1, if_neg h1];by_cases h2 : qa1 (.mk k n s l) u = true
   ·rw [if_pos h2] at h;rw [if_pos h2, if_pos h2, qjq l u.kids g hg h]
   ·rw [if_neg h2] at h;rw [if_neg h2, if_neg h2];exact qhm _ _ hg.len h
theorem qjq {N : List ByteArray} {G : Gs} : ∀ (l m : List Tm) (g : Gs), GsOk N g → GrowG (Tm.gens N l m g).2 G → Tm.gensP G.pairs G.vars l m = (Tm.gens N l m g).1
 | [], m, g, _, _ => by rw [Tm.gens, Tm.gensP] <;> simp
 | t :: l, [], g, _, _ => by rw [Tm.gens, Tm.gensP] <;> simp
 | t :: l, u :: m, g, hg, h => by
  rw [Tm.gens] at h ⊢;rw [Tm.gensP];rw [qll t u g hg ((qe5 N l m _).trans h), qjq l m _ (qfs t u g hg).1 h]
end
mutual
theorem qje {N : List ByteArray} {σ : List Bd} (hold : ∀ x : Tm, x.kind = 1 → x.name ∈ N → getS σ x = x) : ∀ t : Tm, (∀ x ∈ t.all, x.kind = 1 → x.name ∈ N) → t.put σ = t
 | .mk k n s l, h => by
  rw [Tm.put]
  split
  ·rename_i hk; exact hold _ hk (h _ (mem_self _) hk)
  ·rw [qhg hold l fun y hy x hx hk => h x (qcz hy hx) hk]
theorem qhg {N : List ByteArray} {σ : List Bd} (hold : ∀ x : Tm, x.kind = 1 → x.name ∈ N → getS σ x = x) : ∀ l : List Tm, (∀ t ∈ l, ∀ x ∈ t.all, x.kind = 1 → x.name ∈ N) → Tm.puts σ l = l
 | [], _ => rfl
 | t :: r, h => by rw [Tm.puts, qje hold t (h t (List.mem_cons_self ..)), qhg hold r fun y hy => h y (List.mem_cons_of_mem _ hy)]
end
mutual
theorem qlm {N : List ByteArray} {G : Gs} {σ : List Bd} (sel : Bd → Tm) (hsel : ∀ t u : Tm, t = u → sel (t, u) = t) (happ : ∀ t u : Tm, ∀ l, qa1 t u = true → t.valid = 0 → u.valid = 0 → l = (sel (t, u)).kids → Tm.mk t.kind t.name t.sort l = sel (t, u))
  (hkid : ∀ t u : Tm, (sel (t, u)).kids = (t.kids.zip u.kids).map sel ∨ t.kids.length ≠ u.kids.length)
  (htab : ∀ q ∈ G.pairs.zip G.vars, getS σ q.2 = sel q.1) (hold : ∀ x : Tm, x.kind = 1 → x.name ∈ N → getS σ x = x) :
  ∀ (t u : Tm) (g : Gs), GsOk N g → GrowG (t.gen N u g).2 G → t.valid = 0 → u.valid = 0 → (∀ x ∈ t.all, x.kind = 1 → x.name ∈ N) → (t.gen N u g).1.put σ = sel (t, u)
 | .mk k n s l, u, g, hg, h, ht, hu, hN => by
  have hown : (Tm.mk k n s l).put σ = .mk k n s l := qje hold _ hN;rw [Tm.gen] at h ⊢;by_cases h1 : Tm.mk k n s l = u
  ·rw [if_pos h1, hsel _ _ h1]; exact hown
  ·rw [if_neg h1] at h ⊢;by_cases h2 : qa1 (.mk k n s l) u = true
   ·rw [if_pos h2] at h ⊢;obtain ⟨k1, k2, hn, hl⟩ := qa0.1 h2;have k1' : k = 3 := k1;have hl : l.length = u.kids.length := hl;have ih := qjr sel hsel happ hkid htab hold l u.kids g hg h hl (fun x hx => qat ht hx) (fun x hx => qat hu hx) (fun y hy x hx hk => hN x (qcz hy hx) hk);rw [Tm.put, if_neg (by omega), ih];refine happ (.mk k n s l) u _ h2 ht hu ?_;rcases hkid (.mk k n s l) u with e | e
    ·exact e.symm
    ·exact absurd hl e
   ·rw [if_neg h2] at h ⊢;have hp := qhm (.mk k n s l) u hg.len h;obtain ⟨h3, -, -, -, ⟨m, s', h4, -, h5⟩, -⟩ := qe4 hg (.mk k n s l) u;have hz : ((Tm.mk k n s l, u), (qbz N (.mk k n s l) u g).1) ∈ (qbz N (.mk k n s l) u g).2.pairs.zip (qbz N (.mk k n s l) u g).2.vars := by
     unfold qbz
     split
     ·rename_i v hv; exact lookG_some hv
     ·show _ ∈ (g.pairs ++ [(Tm.mk k n s l, u)]).zip (g.vars ++ [newG N (.mk k n s l) u g]);rw [List.zip_append hg.len.symm];exact List.mem_append_right _ (List.mem_singleton.2 rfl)
    obtain ⟨qs, ws, e1, e2, e3⟩ := h.ex;have hz2 : ((Tm.mk k n s l, u), (qbz N (.mk k n s l) u g).1) ∈ G.pairs.zip G.vars := by
     rw [e1, e2, List.zip_append h3.len.symm]; exact List.mem_append_left _ hz
    have := htab _ hz2;rw [put_var (by rw [h5]; rfl)];exact this
theorem qjr {N : List ByteArray} {G : Gs} {σ : List Bd} (sel : Bd → Tm) (hsel : ∀ t u : Tm, t = u → sel (t, u) = t) (happ : ∀ t u : Tm, ∀ l, qa1 t u = true → t.valid = 0 → u.valid = 0 → l = (sel (t, u)).kids → Tm.mk t.kind t.name t.sort l = sel (t, u))
  (hkid : ∀ t u : Tm, (sel (t, u)).kids = (t.kids.zip u.kids).map sel ∨ t.kids.length ≠ u.kids.length)
  (htab : ∀ q ∈ G.pairs.zip G.vars, getS σ q.2 = sel q.1) (hold : ∀ x : Tm, x.kind = 1 → x.name ∈ N → getS σ x = x) :
  ∀ (l m : List Tm) (g : Gs), GsOk N g → GrowG (Tm.gens N l m g).2 G → l.length = m.length → (∀ x ∈ l, x.valid = 0) → (∀ x ∈ m, x.valid = 0) → (∀ t ∈ l, ∀ x ∈ t.all, x.kind = 1 → x.name ∈ N) → Tm.puts σ (Tm.gens N l m g).1 = (l.zip m).map sel
 | [], [], g, _, _, _, _, _, _ => by rw [Tm.gens] <;> simp [Tm.puts]
 | t :: l, u :: m, g, hg, h, hl, ht, hu, hN => by
  rw [Tm.gens] at h ⊢;rw [Tm.puts, List.zip_cons_cons, List.map_cons];rw [qlm sel hsel happ hkid htab hold t u g hg ((qe5 N l m _).trans h) (ht t (List.mem_cons_self ..)) (hu u (List.mem_cons_self ..)) (hN t (List.mem_cons_self ..)),
   qjr sel hsel happ hkid htab hold l m _ (qfs t u g hg).1 h (by simpa using hl) (fun x hx => ht x (List.mem_cons_of_mem _ hx)) (fun x hx => hu x (List.mem_cons_of_mem _ hx)) (fun x hx => hN x (List.mem_cons_of_mem _ hx))]
end
def TabV (g : Gs) : Prop := ∀ p ∈ g.pairs, p.1.valid = 0 ∧ p.2.valid = 0
theorem leafG_tab (N : List ByteArray) {t u : Tm} {g : Gs} (h : TabV g) (ht : t.valid = 0) (hu : u.valid = 0) : TabV (qbz N t u g).2 := by
 unfold qbz
 split
 ·exact h
 ·intro p hp;rcases List.mem_append.1 hp with hp | hp
  ·exact h p hp
  ·rw [List.mem_singleton] at hp; rw [hp]; exact ⟨ht, hu⟩
mutual
theorem gen_tab (N : List ByteArray) : ∀ (t u : Tm) (g : Gs), TabV g → t.valid = 0 → u.valid = 0 → TabV (t.gen N u g).2
 | .mk k n s l, u, g, h, ht, hu => by
  rw [Tm.gen]
  split
  ·exact h
  ·split
   ·exact qf7 N l u.kids g h (fun x hx => qat ht hx) (fun x hx => qat hu hx)
   ·exact leafG_tab N h ht hu
theorem qf7 (N : List ByteArray) : ∀ (l m : List Tm) (g : Gs), TabV g → (∀ x ∈ l, x.valid = 0) → (∀ x ∈ m, x.valid = 0) → TabV (Tm.gens N l m g).2
 | [], m, g, h, _, _ => by rw [Tm.gens]; exact h; simp
 | t :: l, [], g, h, _, _ => by rw [Tm.gens]; exact h; simp
 | t :: l, u :: m, g, h, ht, hu => by
  rw [Tm.gens];exact qf7 N l m _ (gen_tab N t u g h (ht t (List.mem_cons_self ..)) (hu u (List.mem_cons_self ..))) (fun x hx => ht x (List.mem_cons_of_mem _ hx)) (fun x hx => hu x (List.mem_cons_of_mem _ hx))
end
theorem qml : ∀ c : UInt8, 48 ≤ c.toNat → c.toNat ≤ 57 → qdw c = true := fun c h1 h2 => by
 unfold qdw qa8;have : decide ((48 : Int) ≤ (c.toNat : Int) ∧ (c.toNat : Int) ≤ 57) = true := by simp; omega
 rw [this]; simp
theorem qkp : ∀ n : Nat, ∀ c ∈ Lib.decDigits n, qdw c = true := by
 intro n
 induction n using Nat.strongRecOn with
 | _ n ih =>
  intro c hc;have key : ∀ d : Nat, d < 10 → qdw (UInt8.ofNat (48 + d)) = true := fun d hd => by
   refine qml _ ?_ ?_ <;> rw [UInt8.toNat_ofNat'] <;> omega
  by_cases h : n < 10
  ·rw [Lib.decDigits_one h, List.mem_singleton] at hc;rw [hc]; exact key n h
  ·rw [Lib.decDigits, dif_neg h] at hc;rcases List.mem_append.1 hc with hc | hc
   ·exact ih (n / 10) (by omega) c hc
   ·rw [List.mem_singleton] at hc;rw [hc]; exact key (n % 10) (by omega)
theorem qlj {n : Nat} (h : n < 18446744073709551616) : qco (qax n).data.toList = true := by
 rw [qhq];unfold qco;have h1 := Lib.nDigits_le20 n h;have h2 := Lib.decDigits_length n;have h3 : (Lib.decDigits n).all qdw = true := List.all_eq_true.2 (qkp n);have h4 : qdw 103 = true := by decide
 have h5 : qk1 103 = true := by decide
 simp only [List.length_cons, List.all_cons, h3, h4, h5, Bool.and_self, Bool.and_true, decide_eq_true_eq];omega
mutual
theorem qj2 {N : List ByteArray} : ∀ (t u : Tm) (g : Gs), GsOk N g → (t.gen N u g).1.depth ≤ t.depth
 | .mk k n s l, u, g, h => by
  rw [Tm.gen]
  split
  ·exact Nat.le_refl _
  ·split
   ·rw [Tm.depth, Tm.depth]; have := qhz l u.kids g h; omega
   ·obtain ⟨m, s', -, -, e⟩ := (qe4 h (.mk k n s l) u).2.2.2.2.1;rw [e];have h1 : (Tm.mk 1 (qax m) s' []).depth = 1 := rfl;rw [h1]; exact qm0 _
theorem qhz {N : List ByteArray} : ∀ (l m : List Tm) (g : Gs), GsOk N g → Tm.depths (Tm.gens N l m g).1 ≤ Tm.depths l
 | [], m, g, h => by rw [Tm.gens]; exact Nat.le_refl _; simp
 | t :: l, [], g, h => by rw [Tm.gens]; exact Nat.zero_le _; simp
 | t :: l, u :: m, g, h => by
  rw [Tm.gens, Tm.depths, Tm.depths];have := qj2 t u g h;have := qhz l m _ (qfs t u g h).1;omega
end
def qfy (g : Gs) : Prop := ∀ v ∈ g.vars, v.check = 0
theorem ql3 {t : Tm} (h : t.valid = 0) : 0 ≤ t.sort ∧ t.sort ≤ 5 := by
 obtain ⟨k, n, s, l⟩ := t;have hc := check_valid h;rw [Tm.check] at hc;show 0 ≤ s ∧ s ≤ 5
 split at hc
 ·split at hc
  ·omega
  ·rename_i g; omega
 ·split at hc
  ·split at hc
   ·omega
   ·omega
  ·omega
theorem qmi {N : List ByteArray} {t u : Tm} {g : Gs} (ht : t.valid = 0) (hm : qa9 N g.next < 18446744073709551616) : (newG N t u g).check = 0 := by
 obtain ⟨h1, h2⟩ := ql3 ht;unfold newG;rw [Tm.check, if_pos (.inl rfl), if_neg (by split <;> simp <;> omega), if_neg (by rw [qlj hm]; simp)]
theorem qmp {N : List ByteArray} {t u : Tm} {g : Gs} (h : qfy g) (hg : GsOk N g) (ht : t.valid = 0) (hb : (N.length + 1) * (g.pairs.length + 1) < 18446744073709551616) : qfy (qbz N t u g).2 ∧ (qbz N t u g).1.check = 0 := by
 have hm := (qe4 hg t u).2.2.2.2.2;have hv : qfy (qbz N t u g).2 := by
  unfold qbz
  split
  ·exact h
  ·intro v hv;rcases List.mem_append.1 hv with hv | hv
   ·exact h v hv
   ·rw [List.mem_singleton] at hv; rw [hv];refine qmi ht ?_;have h1 := (qbq N g.next).2.1;have h2 := hg.next;rw [Nat.mul_succ] at hb;omega
 exact ⟨hv, hv _ hm⟩
mutual
theorem qil {N : List ByteArray} : ∀ (t u : Tm) (g : Gs), qfy g → GsOk N g → t.valid = 0 → (N.length + 1) * (g.pairs.length + t.size) < 18446744073709551616 → qfy (t.gen N u g).2 ∧ (t.gen N u g).1.check = 0
 | .mk k n s l, u, g, h, hg, ht, hb => by
  have hc := check_valid ht;rw [Tm.gen]
  split
  ·exact ⟨h, hc⟩
  ·split
   ·rename_i ha
    obtain ⟨k1, k2, hn, hl⟩ := qa0.1 ha;have k1 : k = 3 := k1;have hl : l.length = u.kids.length := hl;have hs : (Tm.mk k n s l).size = 1 + Tm.sizes l := by rw [Tm.size]
    obtain ⟨h1, h2⟩ := qjo l u.kids g h hg (fun x hx => qat ht hx) (Nat.lt_of_le_of_lt (Nat.mul_le_mul_left _ (by omega)) hb);refine ⟨h1, ?_⟩;rw [Tm.check] at hc ⊢;rw [qgs N l u.kids g hl];rw [if_neg (by omega), if_pos k1] at hc ⊢
    split at hc
    ·omega
    ·split at hc
     ·omega
     ·split at hc
      ·omega
      ·rename_i g1 g2 g3
       rw [if_neg g1, if_neg g2, if_neg g3]; exact h2
   ·exact qmp h hg ht (Nat.lt_of_le_of_lt (Nat.mul_le_mul_left _ (by have := qey (.mk k n s l); omega)) hb)
theorem qjo {N : List ByteArray} : ∀ (l m : List Tm) (g : Gs), qfy g → GsOk N g → (∀ x ∈ l, x.valid = 0) → (N.length + 1) * (g.pairs.length + Tm.sizes l) < 18446744073709551616 → qfy (Tm.gens N l m g).2 ∧ Tm.checks (Tm.gens N l m g).1 = 0
 | [], m, g, h, _, _, _ => by rw [Tm.gens]; exact ⟨h, rfl⟩; simp
 | t :: l, [], g, h, _, _, _ => by rw [Tm.gens]; exact ⟨h, rfl⟩; simp
 | t :: l, u :: m, g, h, hg, ht, hb => by
  rw [Tm.gens];rw [Tm.sizes] at hb;obtain ⟨a1, a2⟩ := qil t u g h hg (ht t (List.mem_cons_self ..)) (Nat.lt_of_le_of_lt (Nat.mul_le_mul_left _ (by omega)) hb);obtain ⟨o1, o2, o3, o4⟩ := qfs t u g hg;obtain ⟨b1, b2⟩ := qjo l m _ a1 o1 (fun x hx => ht x (List.mem_cons_of_mem _ hx)) (Nat.lt_of_le_of_lt (Nat.mul_le_mul_left _ (by omega)) hb);exact ⟨b1, by dsimp only; rw [Tm.checks, if_neg (by simpa using a2)]; exact b2⟩
end
def qhj (t : Tm) : List ByteArray := (t.all.filter fun x => decide (x.kind = 1)).map Tm.name
def qdg (t u : Tm) : List ByteArray := qhj t ++ qhj u
theorem qmk {t x : Tm} (hx : x ∈ t.all) (hk : x.kind = 1) : x.name ∈ qhj t := List.mem_map_of_mem (List.mem_filter.2 ⟨hx, by simpa using hk⟩)
mutual
theorem qeq : ∀ t : Tm, t.all.length = t.size
 | .mk k n s l => by rw [Tm.all, Tm.size, List.length_cons, qfw l]; omega
theorem qfw : ∀ l : List Tm, (Tm.alls l).length = Tm.sizes l
 | [] => rfl
 | t :: r => by rw [Tm.alls, Tm.sizes, List.length_append, qeq t, qfw r]
end
theorem qe1 (t : Tm) : (qhj t).length ≤ t.size := by
 unfold qhj;rw [List.length_map, ← qeq];exact List.length_filter_le _ _
def genE (t u : Tm) : Tm := (t.gen (qdg t u) u gs0).1
theorem qhw {t u : Tm} (ht : t.valid = 0) (hu : u.valid = 0) : ((qdg t u).length + 1) * (gs0.pairs.length + t.size) < 18446744073709551616 := by
 have h1 := qe1 t;have h2 := qe1 u;have h3 := (qay.1 ht).2.1;have h4 := (qay.1 hu).2.1;have h5 : (qdg t u).length ≤ 800 := by unfold qdg; rw [List.length_append]; omega
 have h6 : gs0.pairs.length = 0 := rfl;refine Nat.lt_of_le_of_lt (Nat.mul_le_mul (show (qdg t u).length + 1 ≤ 801 by omega) (show gs0.pairs.length + t.size ≤ 400 by omega)) (by decide)
theorem qmv {t u : Tm} (ht : t.valid = 0) (hu : u.valid = 0) : (genE t u).valid = 0 := by
 obtain ⟨-, h2, h3⟩ := qay.1 ht;have h4 := (qil (N := qdg t u) t u gs0 (by simp [qfy, gs0]) (qeh _) ht (qhw ht hu)).2;have h5 := qk5 (N := qdg t u) t u gs0 (qeh _);have h6 := qj2 (N := qdg t u) t u gs0 (qeh _);unfold genE;exact qay.2 ⟨h4, by omega, by omega⟩
theorem qlo {t u : Tm} (ht : t.valid = 0) (hu : u.valid = 0) (sel : Bd → Tm) (hsel : ∀ t u : Tm, t = u → sel (t, u) = t) (happ : ∀ t u : Tm, ∀ l, qa1 t u = true → t.valid = 0 → u.valid = 0 → l = (sel (t, u)).kids → Tm.mk t.kind t.name t.sort l = sel (t, u))
  (hkid : ∀ t u : Tm, (sel (t, u)).kids = (t.kids.zip u.kids).map sel ∨ t.kids.length ≠ u.kids.length) (hv : ∀ p : Bd, p.1.valid = 0 → p.2.valid = 0 → (sel p).valid = 0) (hs : ∀ p : Bd, p.1.sort = p.2.sort → (sel p).sort = p.1.sort) :
  ∃ σ, FitS σ ∧ (genE t u).put σ = sel (t, u) := by
 obtain ⟨N, hN⟩ : ∃ N, N = qdg t u := ⟨_, rfl⟩;obtain ⟨G, hG⟩ : ∃ G, G = (t.gen N u gs0).2 := ⟨_, rfl⟩;have hok : GsOk N G := by rw [hG]; exact (qfs t u gs0 (qeh _)).1
 have htv : TabV G := by rw [hG]; exact gen_tab N t u gs0 (by simp [TabV, gs0]) ht hu
 have hap : qbs ((G.pairs.zip G.vars).map fun q => (q.2, sel q.1)) := by
  have h1 : (G.pairs.zip G.vars).map Prod.snd = G.vars := by rw [List.map_snd_zip]; have := hok.len; omega
  have h2 : ((G.pairs.zip G.vars).map Prod.snd).Pairwise (fun a b => a.name ≠ b.name) := by rw [h1]; exact hok.apart
  unfold qbs;rw [List.pairwise_map] at h2 ⊢;exact h2.imp fun h e => h (congrArg Tm.name e)
 refine ⟨(G.pairs.zip G.vars).map fun q => (q.2, sel q.1), fun b hb => ?_, ?_⟩
 ·obtain ⟨q, hq, rfl⟩ := List.mem_map.1 hb;have hp := htv q.1 (List.of_mem_zip hq).1;refine ⟨check_valid (hv _ hp.1 hp.2), ?_⟩;have hso := hok.sorts q hq;show q.2.sort = 0 ∨ ((sel q.1).kind ≠ 3 ∧ (sel q.1).sort = q.2.sort);by_cases h0 : q.2.sort = 0
  ·exact .inl h0
  ·right;by_cases h1 : q.1.1.sort = q.1.2.sort
   ·rw [if_pos h1] at hso;have h2 := hs q.1 h1;refine ⟨fun hk => ?_, by rw [h2, hso]⟩;have := qcw (hv _ hp.1 hp.2) hk;rw [h2, ← hso] at this; exact h0 this
   ·rw [if_neg h1] at hso; exact absurd hso h0
 ·unfold genE;rw [← hN];refine qlm (G := G) sel hsel happ hkid (fun q hq => ?_) (fun x hk hx => ?_) t u gs0 (qeh _) (by rw [← hG]; exact GrowG.refl _) ht hu (fun x hx hk => by rw [hN]; exact List.mem_append_left _ (qmk hx hk))
  ·exact qlk (b := (q.2, sel q.1)) hap (List.mem_map_of_mem (f := fun q : Bd × Tm => (q.2, sel q.1)) hq)
  ·refine getS_notU fun b hb e => ?_;obtain ⟨q, hq, rfl⟩ := List.mem_map.1 hb;obtain ⟨m, s, -, h3, h4⟩ := hok.var q.2 (List.of_mem_zip hq).2;have e : q.2 = x := e;rw [← e, h4] at hx;exact h3 hx
theorem genE_fst {t u : Tm} (ht : t.valid = 0) (hu : u.valid = 0) : ∃ σ, FitS σ ∧ (genE t u).put σ = t := by
 refine qlo ht hu Prod.fst (fun _ _ _ => rfl) (fun t u l _ _ _ e => ?_) (fun t u => ?_) (fun _ h _ => h) (fun _ _ => rfl)
 ·obtain ⟨k, n, s, m⟩ := t; rw [e]; rfl
 ·by_cases h : t.kids.length = u.kids.length
  ·exact .inl (by rw [List.map_fst_zip]; omega)
  ·exact .inr h
theorem genE_snd {t u : Tm} (ht : t.valid = 0) (hu : u.valid = 0) : ∃ σ, FitS σ ∧ (genE t u).put σ = u := by
 refine qlo ht hu Prod.snd (fun _ _ h => h.symm) (fun t u l ha ht hu e => ?_) (fun t u => ?_) (fun _ _ h => h) (fun _ h => h.symm)
 ·obtain ⟨k1, k2, hn, -⟩ := qa0.1 ha;have e1 := qcw ht k1;have e2 := qcw hu k2;rw [k1, hn, e1, e];obtain ⟨k, n, s, m⟩ := u;have k2 : k = 3 := k2;have e2 : s = 0 := e2;subst k2 e2; rfl
 ·by_cases h : t.kids.length = u.kids.length
  ·exact .inl (by rw [List.map_snd_zip]; omega)
  ·exact .inr h
mutual
theorem qjt (ps : List Bd) (vs : List Tm) : ∀ t : Tm, t.genP ps vs t = t
 | .mk k n s l => by rw [Tm.genP, if_pos rfl]
theorem qht (ps : List Bd) (vs : List Tm) : ∀ l : List Tm, Tm.gensP ps vs l l = l
 | [] => by rw [Tm.gensP] <;> simp
 | t :: r => by rw [Tm.gensP, qjt ps vs t, qht ps vs r]
end
theorem qmu {ps : List Bd} {vs : List Tm} {t u : Tm} (h : qa1 t u = true) : t.genP ps vs u = .mk t.kind t.name t.sort (Tm.gensP ps vs t.kids u.kids) := by
 rw [genP_eq];by_cases e : t = u
 ·subst e;rw [if_pos rfl, qht]; cases t; rfl
 ·rw [if_neg e, if_pos h]
mutual
theorem qln {ps : List Bd} {vs : List Tm} {σ1 σ2 τ : List Bd} : ∀ o : Tm, o.check = 0 → (∀ x ∈ o.all, x.kind = 1 → getS τ x = (x.put σ1).genP ps vs (x.put σ2)) → (o.put σ1).genP ps vs (o.put σ2) = o.put τ
 | .mk k n s l, hc, h => by
  by_cases hk : k = 1
  ·rw [put_var (s := τ) (x := .mk k n s l) hk, h _ (mem_self _) hk]
  ·rcases qc4 hc with ⟨-, rfl⟩ | ⟨h3, h4, h5⟩
   ·rw [qf4 (t := .mk k n s []) hk rfl, qf4 (t := .mk k n s []) hk rfl, qf4 (t := .mk k n s []) hk rfl, qjt]
   ·have e : ∀ σ : List Bd, (Tm.mk k n s l).put σ = .mk k n s (Tm.puts σ l) := fun σ => by rw [Tm.put, if_neg hk]
    rw [e, e, e, qmu ((qa0 (a := .mk k n s (Tm.puts σ1 l)) (b := .mk k n s (Tm.puts σ2 l))).2 ⟨h3, h3, rfl, by show (Tm.puts σ1 l).length = (Tm.puts σ2 l).length; rw [Tm.puts_length, Tm.puts_length]⟩)];show Tm.mk k n s (Tm.gensP ps vs (Tm.puts σ1 l) (Tm.puts σ2 l)) = _;rw [qjs l h5 fun y hy x hx hk => h x (qcz hy hx) hk]
theorem qjs {ps : List Bd} {vs : List Tm} {σ1 σ2 τ : List Bd} : ∀ l : List Tm, Tm.checks l = 0 → (∀ y ∈ l, ∀ x ∈ y.all, x.kind = 1 → getS τ x = (x.put σ1).genP ps vs (x.put σ2)) → Tm.gensP ps vs (Tm.puts σ1 l) (Tm.puts σ2 l) = Tm.puts τ l
 | [], _, _ => by rw [Tm.puts, Tm.puts, Tm.gensP] <;> simp [Tm.puts]
 | t :: r, hc, h => by
  obtain ⟨h1, h2⟩ := qcn hc;rw [Tm.puts, Tm.puts, Tm.puts, Tm.gensP, qln t h1 (h t (List.mem_cons_self ..)), qjs r h2 fun y hy => h y (List.mem_cons_of_mem _ hy)]
end
theorem qhr {f : Tm → Tm} {x : Tm} : ∀ {L : List Tm}, x ∈ L → getS (L.map fun y => (y, f y)) x = f x
 | y :: L, h => by
  rw [List.map_cons, getS];by_cases e : y = x
  ·rw [if_pos e, e]
  ·rw [if_neg e];rcases List.mem_cons.1 h with h | h
   ·exact absurd h.symm e
   ·exact qhr h
mutual
theorem qi2 {σ : List Bd} {x : Tm} : ∀ {o : Tm}, x ∈ o.all → x.kind = 1 → o.valid = 0 → (o.put σ).valid = 0 → (x.put σ).valid = 0
 | .mk k n s l, hx, hk, ho, hv => by
  rw [Tm.all] at hx;rcases List.mem_cons.1 hx with rfl | hx
  ·exact hv
  ·rcases qc4 (check_valid ho) with ⟨-, rfl⟩ | ⟨h3, -, -⟩
   ·simp [Tm.alls] at hx
   ·obtain ⟨y, hy, hxy⟩ := qdh.1 hx;exact qg9 l hk hy hxy (fun z hz => qat ho hz) (fun z hz => qat hv (by rw [put_nv (by show k ≠ 1; omega)]; show _ ∈ Tm.puts σ l; rw [Tm.puts_eq]; exact List.mem_map_of_mem hz))
theorem qg9 {σ : List Bd} {x : Tm} : ∀ (l : List Tm) {y : Tm}, x.kind = 1 → y ∈ l → x ∈ y.all → (∀ z ∈ l, z.valid = 0) → (∀ z ∈ l, (z.put σ).valid = 0) → (x.put σ).valid = 0
 | t :: r, y, hk, hy, hx, h1, h2 => by
  by_cases e : y = t
  ·rw [e] at hx; exact qi2 (o := t) hx hk (h1 t (List.mem_cons_self ..)) (h2 t (List.mem_cons_self ..))
  ·rcases List.mem_cons.1 hy with hy | hy
   ·exact absurd hy e
   ·exact qg9 r hk hy hx (fun z hz => h1 z (List.mem_cons_of_mem _ hz)) (fun z hz => h2 z (List.mem_cons_of_mem _ hz))
end
mutual
theorem qhu {N : List ByteArray} {G : Gs} (hv : qfy G) (hok : GsOk N G) : ∀ t u : Tm, t.check = 0 → (t.genP G.pairs G.vars u).check = 0
 | .mk k n s l, u, hc => by
  rw [Tm.genP]
  split
  ·exact hc
  ·split
   ·rename_i ha
    obtain ⟨k1, k2, hn, hl⟩ := qa0.1 ha;have k1 : k = 3 := k1;have hl : l.length = u.kids.length := hl;rcases qc4 hc with ⟨h1, -⟩ | ⟨-, -, h5⟩
    ·omega
    obtain ⟨h6, h7⟩ := qgu hv hok l u.kids h5 hl;rw [Tm.check] at hc ⊢;rw [h7];rw [if_neg (by omega), if_pos k1] at hc ⊢
    split at hc
    ·omega
    ·split at hc
     ·omega
     ·split at hc
      ·omega
      ·rename_i g1 g2 g3
       rw [if_neg g1, if_neg g2, if_neg g3]; exact h6
   ·cases hl : lookG (.mk k n s l) u G.pairs G.vars with
    | none => exact hc
    | some v => exact hv v (List.of_mem_zip (lookG_some hl)).2
theorem qgu {N : List ByteArray} {G : Gs} (hv : qfy G) (hok : GsOk N G) : ∀ l m : List Tm, Tm.checks l = 0 → l.length = m.length → Tm.checks (Tm.gensP G.pairs G.vars l m) = 0 ∧ (Tm.gensP G.pairs G.vars l m).length = l.length
 | [], [], _, _ => by rw [Tm.gensP] <;> simp [Tm.checks]
 | t :: l, u :: m, hc, hl => by
  obtain ⟨h1, h2⟩ := qcn hc;obtain ⟨a1, a2⟩ := qgu hv hok l m h2 (by simpa using hl);rw [Tm.gensP, Tm.checks, if_neg (by simpa using qhu hv hok t u h1)];exact ⟨a1, by simp [a2]⟩
end
theorem qmw {t u o : Tm} (ht : t.valid = 0) (hu : u.valid = 0) (ho : o.valid = 0) {σ1 σ2 : List Bd} (h1 : FitS σ1) (h2 : FitS σ2) (e1 : o.put σ1 = t) (e2 : o.put σ2 = u) : ∃ τ, FitS τ ∧ o.put τ = genE t u := by
 obtain ⟨N, hN⟩ : ∃ N, N = qdg t u := ⟨_, rfl⟩;obtain ⟨G, hG⟩ : ∃ G, G = (t.gen N u gs0).2 := ⟨_, rfl⟩;have hok : GsOk N G := by rw [hG]; exact (qfs t u gs0 (qeh _)).1
 have hvv : qfy G := by rw [hG, hN]; exact (qil (N := qdg t u) t u gs0 (by simp [qfy, gs0]) (qeh _) ht (qhw ht hu)).1
 have hpure : t.genP G.pairs G.vars u = genE t u := by
  unfold genE; rw [← hN];exact qll t u gs0 (qeh _) (by rw [← hG]; exact GrowG.refl _)
 have hx1 : ∀ x ∈ o.all, x.kind = 1 → (x.put σ1).valid = 0 := fun x hx hk => qi2 hx hk ho (by rw [e1]; exact ht);refine ⟨(o.all.filter fun x => decide (x.kind = 1)).map fun x => (x, (x.put σ1).genP G.pairs G.vars (x.put σ2)), fun b hb => ?_, ?_⟩
 ·obtain ⟨x, hx, rfl⟩ := List.mem_map.1 hb;obtain ⟨hx, hk⟩ := List.mem_filter.1 hx;have hk : x.kind = 1 := by simpa using hk
  have hv := hx1 x hx hk;show ((x.put σ1).genP G.pairs G.vars (x.put σ2)).check = 0 ∧ (x.sort = 0 ∨ (((x.put σ1).genP G.pairs G.vars (x.put σ2)).kind ≠ 3 ∧ ((x.put σ1).genP G.pairs G.vars (x.put σ2)).sort = x.sort));have hcc := qhu hvv hok _ (x.put σ2) (check_valid hv);refine ⟨hcc, ?_⟩;by_cases h0 : x.sort = 0
  ·exact .inl h0
  ·right;obtain ⟨s1, k1⟩ := h1.sort hk h0;obtain ⟨s2, k2⟩ := h2.sort hk h0;rw [genP_eq];by_cases g1 : x.put σ1 = x.put σ2
   ·rw [if_pos g1]; exact ⟨k1, s1⟩
   ·rw [if_neg g1, if_neg (fun h => k1 (qa0.1 h).1)]
    cases hl : lookG (x.put σ1) (x.put σ2) G.pairs G.vars with
    | none => exact ⟨k1, s1⟩
    | some v =>
     have hz := lookG_some hl;have hso := hok.sorts _ hz;obtain ⟨m, s, -, -, hve⟩ := hok.var v (List.of_mem_zip hz).2;dsimp only at hso;rw [if_pos (by rw [s1, s2])] at hso;refine ⟨by show v.kind ≠ 3; rw [hve]; show (1 : Int) ≠ 3; decide, by show v.sort = _; rw [hso, s1]⟩
 ·rw [← hpure, ← e1, ← e2];refine (qln o (check_valid ho) fun x hx hk => ?_).symm;exact qhr (f := fun x => (x.put σ1).genP G.pairs G.vars (x.put σ2)) (List.mem_filter.2 ⟨hx, by simpa using hk⟩)
section
variable {P : Program} {ops : Array Oper} {Q : Exit → Act → World → Prop} {md : Region.Mode} {S : World → Prop} {n : Nat}
inductive Mx3 where
 | nil
 | held (i : Nat) (r : Mx3)
 | pure (i : Nat) (r : Mx3)
 | op (i : Nat) (r : Mx3)
 | two (i j : Nat) (r r' : Mx3)
 | three (i j k : Nat) (r r' r'' : Mx3)
def Mx3.len : Mx3 → Nat
 | .nil => 0
 | .held _ r | .pure _ r | .op _ r => r.len + 1
 | .two _ _ r _ => r.len + 1
 | .three _ _ _ r _ _ => r.len + 1
def qbi (P : Program) (ops : Array Oper) (Q : Exit → Act → World → Prop) (S : World → Prop) (n : Nat) : Mx3 → Act → World → Prop
 | .nil, a, w => Q .normal a w
 | .held i r, a, w => S w ∧ ∃ o v, ops[i]? = some o ∧ YieldsIf P ops S o v a ∧ (∀ c a' w', Q (.panic c) (a'.put o.dst v) w' → Q (.panic c) a' w') ∧ qbi P ops Q S n r (a.put o.dst v) w
 | .pure i r, a, w => (i < n → S w) ∧ ∃ o v, ops[i]? = some o ∧ YieldsIf P ops (fun _ => True) o v a ∧ (∀ c a' w', Q (.panic c) (a'.put o.dst v) w' → Q (.panic c) a' w') ∧ qbi P ops Q S n r (a.put o.dst v) w
 | .op i r, a, w => wpOp P ops Q i (fun a' w' => (i < n → S w') ∧ qbi P ops Q S n r a' w') a w
 | .two i j r r', a, w => wpOp P ops Q i (fun a' w' => (i < n → S w') ∧ qbi P ops Q S n r a' w') a w ∧ wpOp P ops Q j (fun a' w' => (j < n → S w') ∧ qbi P ops Q S n r' a' w') a w
 | .three i j k r r' r'', a, w => wpOp P ops Q i (fun a' w' => (i < n → S w') ∧ qbi P ops Q S n r a' w') a w ∧ wpOp P ops Q j (fun a' w' => (j < n → S w') ∧ qbi P ops Q S n r' a' w') a w ∧ wpOp P ops Q k (fun a' w' => (k < n → S w') ∧ qbi P ops Q S n r'' a' w') a w
def qef (md : Region.Mode) (ops : Array Oper) (n : Nat) : Mx3 → Array Bool → Bool
 | .nil, listed => (Region.ready md ops listed).isEmpty
 | .held i r, listed => decide (i < n) && (Region.ready md ops listed).contains i && Region.free md ops listed i && qef md ops n r (listed.setIfInBounds i true)
 | .pure i r, listed => decide (n ≤ i) && (Region.ready md ops listed).contains i && Region.free md ops listed i && qef md ops n r (listed.setIfInBounds i true)
 | .op i r, listed => decide (Region.ready md ops listed = [i]) && qef md ops n r (listed.setIfInBounds i true)
 | .two i j r r', listed => decide (Region.ready md ops listed = [i, j]) && decide (r.len = r'.len) && qef md ops n r (listed.setIfInBounds i true) && qef md ops n r' (listed.setIfInBounds j true)
 | .three i j k r r' r'', listed => decide (Region.ready md ops listed = [i, j, k]) && decide (r.len = r'.len) && decide (r.len = r''.len) && qef md ops n r (listed.setIfInBounds i true) && qef md ops n r' (listed.setIfInBounds j true) && qef md ops n r'' (listed.setIfInBounds k true)
def mixOk3 (md : Region.Mode) (ops : Array Oper) (n : Nat) (order : Mx3) : Bool :=
 Region.noSelect ops && barB md ops n && decide (order.len = ops.size) && qef md ops n order (Array.replicate ops.size false)
theorem qa4 (hsel : Region.noSelect ops = true) (hb : barB md ops n = true) :
  ∀ (order : Mx3) (listed : Array Bool) (a : Act) (w : World), qef md ops n order listed = true → qbi P ops Q S n order a w → qg8 P md ops Q S n order.len listed a w
 | .nil, listed, a, w, hB, h => ⟨by simpa [qef] using hB, h⟩
 | .held i r, listed, a, w, hB, h => by
  simp only [qef, Bool.and_eq_true, decide_eq_true_eq] at hB;obtain ⟨⟨⟨hin, hr⟩, hf⟩, hB2⟩ := hB;obtain ⟨hS, o, v, ho, hy, hQ, hrest⟩ := h;exact qc7 ho (Region.noSelect_spec hsel) (fun l j w hun hj hSw => hSw (qj7 hb hin hun j hj)) (fun _ h _ => h) hQ r.len listed a w (Region.free_spec ho hf) (by simpa using hr) hy hS
   (qa4 hsel hb r _ _ _ hB2 hrest)
 | .pure i r, listed, a, w, hB, h => by
  simp only [qef, Bool.and_eq_true, decide_eq_true_eq] at hB;obtain ⟨⟨⟨hin, hr⟩, hf⟩, hB2⟩ := hB;obtain ⟨_, o, v, ho, hy, hQ, hrest⟩ := h;exact qc7 (S' := fun _ => True) ho (Region.noSelect_spec hsel) (fun _ _ _ _ _ _ => trivial) (fun _ _ h => absurd h (by omega)) hQ r.len listed a w (Region.free_spec ho hf) (by simpa using hr) hy trivial
   (qa4 hsel hb r _ _ _ hB2 hrest)
 | .op i r, listed, a, w, hB, h => by
  simp only [qef, Bool.and_eq_true, decide_eq_true_eq] at hB;refine ⟨fun h0 => (by rw [hB.1] at h0; cases h0), fun j hj => ?_⟩;rw [hB.1] at hj;obtain rfl : j = i := by simpa using hj
  exact wpOp_mono (fun a' w' h' => ⟨h'.1, qa4 hsel hb r _ a' w' hB.2 h'.2⟩) h
 | .two i k r r', listed, a, w, hB, h => by
  simp only [qef, Bool.and_eq_true, decide_eq_true_eq] at hB;obtain ⟨⟨⟨hr, hlen⟩, hB1⟩, hB2⟩ := hB;refine ⟨fun h0 => (by rw [hr] at h0; cases h0), fun j hj => ?_⟩;rw [hr] at hj;simp only [List.mem_cons, List.not_mem_nil, or_false] at hj;rcases hj with rfl | rfl
  ·exact wpOp_mono (fun a' w' h' => ⟨h'.1, qa4 hsel hb r _ a' w' hB1 h'.2⟩) h.1
  ·exact wpOp_mono (fun a' w' h' => ⟨h'.1, by rw [hlen]; exact qa4 hsel hb r' _ a' w' hB2 h'.2⟩) h.2
 | .three i k m r r' r'', listed, a, w, hB, h => by
  simp only [qef, Bool.and_eq_true, decide_eq_true_eq] at hB;obtain ⟨⟨⟨⟨⟨hr, hlen⟩, hlen2⟩, hB1⟩, hB2⟩, hB3⟩ := hB;refine ⟨fun h0 => (by rw [hr] at h0; cases h0), fun j hj => ?_⟩;rw [hr] at hj;simp only [List.mem_cons, List.not_mem_nil, or_false] at hj;rcases hj with rfl | rfl | rfl
  ·exact wpOp_mono (fun a' w' h' => ⟨h'.1, qa4 hsel hb r _ a' w' hB1 h'.2⟩) h.1
  ·exact wpOp_mono (fun a' w' h' => ⟨h'.1, by rw [hlen]; exact qa4 hsel hb r' _ a' w' hB2 h'.2⟩) h.2.1
  ·exact wpOp_mono (fun a' w' h' => ⟨h'.1, by rw [hlen2]; exact qa4 hsel hb r'' _ a' w' hB3 h'.2⟩) h.2.2
theorem qg3 {id : Nat} {Q : Exit → Act → World → Prop} {a : Act} {w : World} {l : List Oper} (S : World → Prop) (n : Nat) (order : Mx3) (hm : P.follows .mixedOrders = true)
  (hB : mixOk3 .any l.toArray n order = true) (h : qbi P l.toArray Q S n order a w.drew) : (Code.region id l.toArray true).wp P Q a w := by
 simp only [mixOk3, Bool.and_eq_true, decide_eq_true_eq] at hB;obtain ⟨⟨⟨hsel, hb⟩, hlen⟩, hB⟩ := hB;refine wp_region_any hm ?_;have := qfd _ _ _ _ (qa4 (md := .any) hsel hb order _ a w.drew hB h);rw [hlen] at this;exact this
theorem qc9 {a : Act} {w : World} (h : Q .normal a w) : qbi P ops Q S n .nil a w := h
theorem qb4 {i : Nat} {r : Mx3} {a : Act} {w : World} {o : Oper} {v : Value} (ho : ops[i]? = some o) (hg : o.guard = none) (hQ : ∀ c a' w', Q (.panic c) (a'.put o.dst v) w' → Q (.panic c) a' w')
  (hS : S w) (hv : ∀ w, S w → (execOp a.eval o).run P w = .ok (.value v) w) (h : qbi P ops Q S n r (a.put o.dst v) w) : qbi P ops Q S n (.held i r) a w :=
 ⟨hS, o, v, ho, Or.inl ⟨by simp [Region.wanted, hg], hv⟩, hQ, h⟩
theorem mix3_pure {i : Nat} {r : Mx3} {a : Act} {w : World} {o : Oper} {v : Value} (ho : ops[i]? = some o) (hg : o.guard = none) (hQ : ∀ c a' w', Q (.panic c) (a'.put o.dst v) w' → Q (.panic c) a' w')
  (hn : n ≤ i) (hv : ∀ w, (execOp a.eval o).run P w = .ok (.value v) w) (h : qbi P ops Q S n r (a.put o.dst v) w) : qbi P ops Q S n (.pure i r) a w :=
 ⟨fun h => absurd h (by omega), o, v, ho, Or.inl ⟨by simp [Region.wanted, hg], fun w _ => hv w⟩, hQ, h⟩
theorem qaw {i : Nat} {r : Mx3} {a : Act} {w : World} {o : Oper} (ho : ops[i]? = some o) (hg : o.guard = none)
  (h : ∀ K : Act → World → Prop, (∀ a' w', (i < n → S w') ∧ qbi P ops Q S n r a' w' → K a' w') → o.wp P a w K Q) : qbi P ops Q S n (.op i r) a w := by
 show wpOp P ops Q i _ a w;unfold wpOp;simp only [ho, Region.wanted, hg, if_true];exact .inl (h _ fun a' w' h => h)
theorem mix3_take_g {i : Nat} {r : Mx3} {a : Act} {w : World} {o : Oper} {v : Value} (ho : ops[i]? = some o) (hw : Region.wanted o (yielded ops a.tmps) = true) (hQ : ∀ c a' w', Q (.panic c) (a'.put o.dst v) w' → Q (.panic c) a' w')
  (hS : S w) (hv : ∀ w, S w → (execOp a.eval o).run P w = .ok (.value v) w) (h : qbi P ops Q S n r (a.put o.dst v) w) : qbi P ops Q S n (.held i r) a w :=
 ⟨hS, o, v, ho, Or.inl ⟨hw, hv⟩, hQ, h⟩
theorem mix3_op_g {i : Nat} {r : Mx3} {a : Act} {w : World} {o : Oper} (ho : ops[i]? = some o) (hw : Region.wanted o (yielded ops a.tmps) = true)
  (h : ∀ K : Act → World → Prop, (∀ a' w', (i < n → S w') ∧ qbi P ops Q S n r a' w' → K a' w') → o.wp P a w K Q) : qbi P ops Q S n (.op i r) a w := by
 show wpOp P ops Q i _ a w;unfold wpOp;simp only [ho, hw, if_true];exact .inl (h _ fun a' w' h => h)
theorem qe2 {i j : Nat} {r r' : Mx3} {a : Act} {w : World} (h : qbi P ops Q S n (.op i r) a w) (h' : qbi P ops Q S n (.op j r') a w) : qbi P ops Q S n (.two i j r r') a w := ⟨h, h'⟩
theorem qmm {i j k : Nat} {r r' r'' : Mx3} {a : Act} {w : World} (h : qbi P ops Q S n (.op i r) a w) (h' : qbi P ops Q S n (.op j r') a w) (h'' : qbi P ops Q S n (.op k r'') a w) : qbi P ops Q S n (.three i j k r r' r'') a w := ⟨h, h', h''⟩
end
end Go.Proofs.YtpjmdilpldaapaaGreatDoor
namespace Go.Proofs.YtpjmdilpldaapaaGreatDoor
open Go.RowKit Go.Sort
theorem qdi (t : Tm) (A : Option Addr) (c : Nat) (w : World) : Calls Tryz.prog 71 #[t.val A c] w fun e w' => e = .returned (.bool (t.kind == 1)) ∧ Lay w.heap.size w w' := by
 simp only [Tm.val];go_enter Tryz.func71, Tryz.ntmps71
 go_wp2_with fail
 go_ret
 exact ⟨rfl, (Lay.refl _ _).alloc (Nat.le_refl _) _⟩
theorem qii (t : Tm) (A : Option Addr) (c : Nat) (w : World) : Calls Tryz.prog 47 #[t.val A c] w fun e w' => e = .returned (keyV t) ∧ Lay w.heap.size w w' := by
 simp only [Tm.val, keyV];go_enter Tryz.func47, Tryz.ntmps47
 go_wp2_with fail
 refine bodyPost_ret (v := .agg #[.string t.name, .int .i64 t.sort]) ?_ rfl ?_
 ·simp [results, Tryz.results47, go_sem]
 exact ⟨rfl, ((Lay.refl _ _).alloc (Nat.le_refl _) _).alloc (by simp) _⟩
theorem qck (t u : Tm) (A A' : Option Addr) (c c' : Nat) (w : World) (ht : t.size ≤ 1000000) (hu : u.size ≤ 1000000) (hrt : RepT w w.heap.size t A c) (hru : RepT w w.heap.size u A' c') :
  Calls Tryz.prog 48 #[t.val A c, u.val A' c'] w fun e w' => e = .returned (.bool (decide (t = u))) ∧ Lay w.heap.size w w' := by
 obtain ⟨V, hV⟩ : ∃ V, V = (w.alloc (boxT t A c)).alloc (boxT u A' c') := ⟨_, rfl⟩;have h2 : Two w t u A A' c c' V := by rw [hV]; exact Two.new _ _ _ _ _ _ _
 have CM := qc3 1000000 t u A A' c c' V ht (Nat.le_refl _) hu (hrt.go h2.lay.below h2.lay.size) (hru.go h2.lay.below h2.lay.size);obtain ⟨d, hd⟩ : ∃ d, d = t.cmp u := ⟨_, rfl⟩;have hz : decide (t = u) = (d == 0) := by
  rw [hd, Bool.eq_iff_iff, decide_eq_true_iff, beq_iff_eq]; exact Tm.cmp_zero.symm
 rw [hz];rw [← hd] at CM;clear hz hd;have CM := Lib.hid CM;have H2 := Lib.hid h2.lay;obtain ⟨a0, a1, a2, a3, -⟩ := qad h2.one;obtain ⟨b0, b1, b2, b3, -⟩ := qad h2.two;clear h2;simp only [boxT] at hV;have HV := Lib.hid hV; clear hV;simp only [Tm.val] at CM ⊢;go_enter Tryz.func48, Tryz.ntmps48
 go_wp2_with fail
 rw [← HV.out];go_wp2_with fail
 refine CM.out.mono ?_; clear CM;rintro e w1 ⟨rfl, hl⟩;go_wp2_with fail
 go_ret
 exact ⟨rfl, H2.out.trans (hl.mono H2.out.size)⟩
theorem qgz (t u : Tm) (A A' : Option Addr) (c c' : Nat) (w : World) (ht : t.kids.length ≤ 1000000) (hu : u.kids.length ≤ 1000000) :
  Calls Tryz.prog 73 #[t.val A c, u.val A' c'] w fun e w' => e = .returned (.bool (qa1 t u)) ∧ Lay w.heap.size w w' := by
 have h2 : Lay w.heap.size w ((w.alloc (boxT t A c)).alloc (boxT u A' c')) := (Two.new w t u A A' c c').lay;simp only [boxT] at h2;have H2 := Lib.hid h2; clear h2;have e1 : qa1 t u = (if (t.kind == 3) = true then (if (u.kind == 3) = true then (if (t.name.toList == u.name.toList) = true then ((t.kids.length : Int) == (u.kids.length : Int)) else false) else false) else false) := by
  unfold qa1;have hn : decide (t.name = u.name) = (t.name.toList == u.name.toList) := by
   rw [Bool.eq_iff_iff, decide_eq_true_iff, beq_iff_eq];exact ⟨fun h => by rw [h], fun h => by rw [ByteArray.toList_eq, ByteArray.toList_eq] at h; exact ByteArray.ext (Array.toList_inj.1 h)⟩
  have hl : decide (t.kids.length = u.kids.length) = ((t.kids.length : Int) == (u.kids.length : Int)) := by
   rw [Bool.eq_iff_iff, decide_eq_true_iff, beq_iff_eq]; omega
  have hk : ∀ x : Tm, decide (x.kind = 3) = (x.kind == 3) := fun x => by rw [Bool.eq_iff_iff, decide_eq_true_iff, beq_iff_eq]
  rw [hn, hl, hk, hk];cases t.kind == 3 <;> cases u.kind == 3 <;> cases t.name.toList == u.name.toList <;> rfl
 rw [e1];clear e1;have k1 : (t.kids.length : Int) ≤ 9223372036854775807 := by omega
 have k2 : (u.kids.length : Int) ≤ 9223372036854775807 := by omega
 simp only [Tm.val];generalize hq1 : (t.kind == 3) = q1;generalize hq2 : (u.kind == 3) = q2;generalize hq3 : (t.name.toList == u.name.toList) = q3
 cases q1 with
 | false =>
  go_enter Tryz.func73, Tryz.ntmps73
  go_wp2_with fail
  go_ret
  exact ⟨rfl, H2.out⟩
 | true =>
  cases q2 with
  | false =>
   go_enter Tryz.func73, Tryz.ntmps73
   go_wp2_with fail
   go_ret
   exact ⟨rfl, H2.out⟩
  | true =>
   cases q3 with
   | false =>
    go_enter Tryz.func73, Tryz.ntmps73
    go_wp2_with fail
    go_ret
    exact ⟨rfl, H2.out⟩
   | true =>
    go_enter Tryz.func73, Tryz.ntmps73
    go_wp2_with fail
    go_ret
    exact ⟨by simp, H2.out⟩
def TestT (g : Nat) (caps : Array Value) (p : Tm → Bool) (l : List Tm) (w : World) : Prop :=
 ∀ t ∈ l, ∀ (A : Option Addr) (c : Nat) (Z : World), Below w.heap.size w Z → RepT Z Z.heap.size t A c → Calls Tryz.prog g (#[t.val A c] ++ caps) Z fun e w' => e = .returned (.bool (p t)) ∧ Below Z.heap.size Z w'
set_option maxHeartbeats 1000000 in
theorem qmr (l : List Tm) (A0 : Option Addr) (cap0 : Nat) (g : Nat) (caps : Array Value) (p : Tm → Bool) (w : World) (eg : ∀ args w, (callFunc g args).run Tryz.prog w = .ok (.enter g args) w) (hp : TestT g caps p l w) (hlen : l.length ≤ 1000000) (hrep : RepS w (fun b => b < w.heap.size) l A0 cap0) :
  Calls Tryz.prog 118 #[.slice A0 l.length cap0, .func (.func g) #[] caps] w fun e w' => ∃ n : Int, e = .returned (.int .i64 n) ∧ decide (0 ≤ n) = l.any p ∧ Below w.heap.size w w' := by
 have mixed : Tryz.prog.follows .mixedOrders = true := by kernel_rfl
 obtain ⟨h1, h2, h3⟩ := hrep;unfold maxLen at h2;have HP := Lib.hid hp; clear hp;obtain ⟨r, hr⟩ : ∃ r, r = l.any p := ⟨_, rfl⟩;rw [← hr];have HR0 : Hid (r = (l.drop 0).any p) := hr; clear hr;go_enter Tryz.func118, Tryz.ntmps118
 go_wp2_with fail
 go_loopw [5, 8] (fun _ i wr => ∃ k : Nat, k ≤ l.length ∧ i = .int .i64 k ∧ Hid (r = (l.drop k).any p) ∧ Hid (Below w.heap.size w wr)) (fun _ i _ => l.length - (intOf i).toNat)
 case atStart => exact ⟨0, Nat.zero_le _, rfl, HR0, Below.refl _ _⟩
 case round =>
  obtain ⟨k, hk, rfl, HR, HBW⟩ := hrel;have i1 : (0 : Int) ≤ (k : Int) := Int.natCast_nonneg _;by_cases hlt : k < l.length
  ·have i2 : (k : Int) < (l.length : Int) := by omega
   rcases h3 with rfl | ⟨b, off, rfl, hbB, hl⟩
   ·simp at hlt
   have hws := HBW.out.size;have hlr : qao wr (fun b => b < w.heap.size) l b off := qao.mono (fun _ h => h) (fun p hp => HBW.out.cell hp) _ _ _ hbB hl;obtain ⟨A, c, a0, a1, a2, a3, hra⟩ := hlr.get k hlt;have HC := Lib.hid (HP.out l[k] (List.getElem_mem hlt) A c wr HBW.out (RepP.mono (fun b (h : b < w.heap.size) => by omega) (fun _ _ => rfl) _ _ _ hra));have hst : r = (p l[k] || (l.drop (k + 1)).any p) := by rw [HR.out, List.drop_eq_getElem_cons hlt, List.any_cons]
   obtain ⟨q, hq⟩ : ∃ q, q = p l[k] := ⟨_, rfl⟩;rw [← hq] at HC hst;have HST := Lib.hid hst; clear hst hq hlr hl;simp only [Tm.val] at HC
   cases q with
   | true =>
    have hr : r = true := by rw [HST.out, Bool.true_or]
    subst hr;clear HST;go_wp2_with (go_at_fn g; refine HC.out.mono ?_; rintro e w' ⟨rfl, hb'⟩)
    go_ret
    exact ⟨k, rfl, decide_eq_true (by omega), HBW.out.trans (hb'.mono hws)⟩
   | false =>
    have HNX : Hid (r = (l.drop (k + 1)).any p) := by rw [HST.out, Bool.false_or]; exact rfl
    clear HST;go_wp2_with (go_at_fn g; refine HC.out.mono ?_; rintro e w' ⟨rfl, hb'⟩)
    go_roundw
    case rel => exact ⟨k + 1, by omega, by go_num, HNX, HBW.out.trans (hb'.mono hws)⟩
    case measure => simp [intOf]; omega
  ·obtain rfl : k = l.length := by omega
   have hr : r = false := by rw [HR.out, List.drop_length]; rfl
   subst hr;go_wp2_with fail
   go_ret
   exact ⟨-1, rfl, by decide, HBW.out⟩
theorem qio (l : List Tm) (A0 : Option Addr) (cap0 : Nat) (g : Nat) (caps : Array Value) (p : Tm → Bool) (w : World) (eg : ∀ args w, (callFunc g args).run Tryz.prog w = .ok (.enter g args) w) (hp : TestT g caps p l w) (hlen : l.length ≤ 1000000) (hrep : RepS w (fun b => b < w.heap.size) l A0 cap0) :
  Calls Tryz.prog 102 #[.slice A0 l.length cap0, .func (.func g) #[] caps] w fun e w' => e = .returned (.bool (l.any p)) ∧ Below w.heap.size w w' := by
 have HI := Lib.hid (qmr l A0 cap0 g caps p w eg hp hlen hrep);clear hp hrep;generalize l.any p = r at *;go_enter Tryz.func102, Tryz.ntmps102
 go_wp2_with fail
 refine HI.out.mono ?_;rintro e w' ⟨n, rfl, hn, hb⟩;go_wp2_with fail
 go_ret
 exact ⟨by rw [← hn]; rfl, hb⟩
theorem occT_step (x : Tm) (k : Int) (n : ByteArray) (s : Int) (l : List Tm) : occT x (.mk k n s l) = (decide (x = .mk k n s l) || l.any (occT x)) := by
 unfold occT;rw [Bool.eq_iff_iff];simp only [decide_eq_true_eq, Bool.or_eq_true, List.any_eq_true, Tm.all, List.mem_cons, qdh]
set_option maxHeartbeats 1000000 in
theorem qgd (n : Nat) : ∀ (x t : Tm) (A A' : Option Addr) (c c' : Nat) (w : World), x.size ≤ 1000000 → t.size ≤ n → n ≤ 1000000 → RepT w w.heap.size x A c → RepT w w.heap.size t A' c' →
  Calls Tryz.prog 85 #[x.val A c, t.val A' c'] w fun e w' => e = .returned (.bool (occT x t)) ∧ Below w.heap.size w w' := by
 induction n with
 | zero => intro x t _ _ _ _ _ _ h; have := t.size_pos; omega
 | succ n ih =>
  intro x t A A' c c' w hx hn hn1 hrx hrt;obtain ⟨V, hV⟩ : ∃ V, V = (w.alloc (boxT x A c)).alloc (boxT t A' c') := ⟨_, rfl⟩;have h2 : Two w x t A A' c c' V := by rw [hV]; exact Two.new _ _ _ _ _ _ _
  have SM := qck x t A A' c c' V hx (by omega) (hrx.go h2.lay.below h2.lay.size) (hrt.go h2.lay.below h2.lay.size);obtain ⟨tk, tn, ts, l⟩ := t;have CF : Hid (∀ Z, Lay V.heap.size V Z → Calls Tryz.prog 102 #[.slice A' l.length c', .func (.func 103) #[] #[.pointer (some ⟨w.heap.size, 0, none⟩)]] Z fun e w' => e = .returned (.bool (l.any (occT x))) ∧ Below Z.heap.size Z w') := Lib.hid fun Z hZ => by
   rw [qb2] at hrt;rw [Tm.size] at hn;have hls := Tm.length_le_sizes l;have hs2 := h2.lay.size;have hsZ := hZ.size;have hl2 := h2.lt;have hwZ : Below w.heap.size w Z := qae h2.lay.below hZ.below hs2;refine qio l A' c' 103 #[.pointer (some ⟨w.heap.size, 0, none⟩)] (occT x) Z (enters_of Tryz.func103 (by kernel_rfl) rfl) (fun u hu Au cu Y hY hru => ?_) (by omega) (RepS.mono (fun b (h : b < w.heap.size) => by omega) (fun p hp => hwZ.cell hp) hrt.2);have hsz : u.size ≤ n := by
    obtain ⟨j, hj, e⟩ := List.getElem_of_mem hu;have := Tm.sizes_get l j hj;rw [e] at this; omega
   have hbx : Y.heap[w.heap.size]? = some (.cells #[.int .i64 x.kind, .string x.name, .int .i64 x.sort, .slice A x.kids.length c] 24 (0, 0)) := (hY.block _ (by omega)).trans ((hZ.below.block _ (by omega)).trans h2.one);have hwY : Below w.heap.size w Y := qae hwZ hY hwZ.size;obtain ⟨W, hW⟩ : ∃ W, W = Y.alloc (boxT u Au cu) := ⟨_, rfl⟩;have hbW : Below Y.heap.size Y W := by rw [hW]; exact qaf (Nat.le_refl _) _
   have hub : W.heap[Y.heap.size]? = some (boxT u Au cu) := by rw [hW]; exact heap_alloc_new _ _
   have hxW := (hbW.block _ (by have := hY.size; omega)).trans hbx;have OC := Lib.hid (ih x u A Au c cu W hx hsz (by omega) (hrx.go (qae hwY hbW hwY.size) (Nat.le_trans hwY.size hbW.size)) (hru.go hbW hbW.size));obtain ⟨a0, a1, a2, a3, -⟩ := qad hxW;simp only [boxT] at hW hub;obtain ⟨b0, b1, b2, b3, -⟩ := qad hub;have HW := Lib.hid hW; clear hW;have HB := Lib.hid hbW; clear hbW;clear hub hxW hbx hwY hwZ h2 hZ hY hrt hru hrx ih;show Calls Tryz.prog 103 #[u.val Au cu, .pointer (some ⟨w.heap.size, 0, none⟩)] Y _;generalize occT x u = q at *;simp only [Tm.val] at OC ⊢;rw [HW.out] at a0 a1 a2 a3 b0 b1 b2 b3;go_enter Tryz.func103, Tryz.ntmps103
   go_wp2_with fail
   rw [← HW.out];refine OC.out.mono ?_; clear OC;rintro e w3 ⟨rfl, hb3⟩;go_wp2_with fail
   go_ret
   exact ⟨rfl, qae HB.out hb3 HB.out.size⟩
  rw [occT_step];have H2 := Lib.hid h2.lay;obtain ⟨a0, a1, a2, a3, -⟩ := qad h2.one;obtain ⟨b0, b1, b2, b3, -⟩ := qad h2.two;have HT := Lib.hid h2.two;clear h2 hrx hrt ih;simp only [boxT] at hV;have HV := Lib.hid hV; clear hV;generalize decide (x = .mk tk tn ts l) = q at *;generalize l.any (occT x) = q2 at *;have SM := Lib.hid SM;simp only [Tm.val, Tm.kind, Tm.name, Tm.sort, Tm.kids] at *;go_enter Tryz.func85, Tryz.ntmps85
  go_wp2_with fail
  rw [← HV.out];go_wp2_with fail
  refine SM.out.mono ?_; clear SM a0 a1 a2 a3 b0 b1 b2 b3;rintro e w1 ⟨rfl, hl1⟩;have CF := Lib.hid (CF.out w1 hl1);obtain ⟨b0, b1, b2, b3, -⟩ := qad ((hl1.below.block _ ((Array.getElem?_eq_some_iff.1 HT.out).1)).trans HT.out);have H3 := Lib.hid (H2.out.trans (hl1.mono H2.out.size)); clear hl1
  cases q with
  | true =>
   go_wp2_with fail
   go_ret
   exact ⟨rfl, H3.out.below⟩
  | false =>
   go_wp2_with fail
   refine CF.out.mono ?_; clear CF;rintro e w2 ⟨rfl, hb2⟩;go_wp2_with fail
   go_ret
   exact ⟨by simp, qae H3.out.below hb2 H3.out.size⟩
end Go.Proofs.YtpjmdilpldaapaaGreatDoor
namespace Go.Proofs.YtpjmdilpldaapaaGreatDoor
open Go.RowKit
open Go.RowKit
open Go.RowKit Go.Sort
def qk2 (s : Int) : List UInt8 := (qh9.getD s.toNat ByteArray.empty).data.toList
mutual
def Tm.text : Tm → List UInt8
 | .mk k n s l =>
  if k = 1 then 63 :: (n.data.toList ++ (if s = 0 then [] else 58 :: qk2 s))
  else if k = 2 then n.data.toList ++ 58 :: qk2 s
  else n.data.toList ++ 40 :: (Tm.texts l ++ [41])
def Tm.texts : List Tm → List UInt8
 | [] => []
 | t :: r => t.text ++ Tm.more r
def Tm.more : List Tm → List UInt8
 | [] => []
 | t :: r => 44 :: 32 :: (t.text ++ Tm.more r)
end
theorem qm2 {k s : Int} {n : ByteArray} {l : List Tm} (hk : k = 1 ∨ k = 2) (h : (Tm.mk k n s l).check = 0) : 0 ≤ s ∧ s ≤ 5 ∧ l = [] ∧ qco n.data.toList = true := by
 rw [Tm.check, if_pos hk] at h
 split at h
 ·omega
 ·rename_i h1
  split at h
  ·omega
  ·rename_i h2
   refine ⟨by omega, by omega, ?_, by simpa using h2⟩;exact Classical.byContradiction fun h3 => h1 (.inr (.inr h3))
structure Wrote (B b : Nat) (w w' : World) : Prop where
 below : Below B w w'
 others : Lib.OthersKept 5 (some b) w w'
theorem Wrote.refl (B b : Nat) (w : World) : Wrote B b w w := ⟨Below.refl _ _, Lib.OthersKept.refl _ _ _⟩
theorem Wrote.trans {B b : Nat} {u v w : World} (h : Wrote B b u v) (k : Wrote B b v w) : Wrote B b u w := ⟨h.below.trans k.below, h.others.trans k.others⟩
theorem Wrote.alloc {B b : Nat} {u w : World} (h : Wrote B b u w) (hB : B ≤ w.heap.size) (o : Obj) : Wrote B b u (w.alloc o) := ⟨h.below.alloc hB o, h.others.alloc o⟩
theorem Wrote.drewN {B b : Nat} {u w : World} (h : Wrote B b u w) (n : Nat) : Wrote B b u (w.drewN n) := ⟨⟨h.below.os, h.below.tape, h.below.output, h.below.size, h.below.block⟩, h.others⟩
theorem Wrote.box {B b : Nat} {u w : World} (h : Wrote B b u w) {p : Nat} {cs : Array Value} {fr : Nat × Nat} (hp : u.heap[p]? = some (.cells cs 24 fr)) (hne : p ≠ b) : w.heap[p]? = some (.cells cs 24 fr) :=
 h.others p _ hp (fun e => hne (Option.some.inj e)) (fun c fz e => by injection e with _ e2 _; exact absurd e2 (by decide))
end Go.Proofs.YtpjmdilpldaapaaGreatDoor
namespace Go.Proofs.YtpjmdilpldaapaaGreatDoor
open Go.RowKit Go.Sort
def MapT (w : World) (b n : Nat) (G : Nat → Prop) (s : List Bd) : Prop :=
 ∃ F, qba w b n F ∧ ∀ x : Tm, x.kind = 1 → x.kids = [] → qbl x → (hasS s x = false ∧ F x = none) ∨ (hasS s x = true ∧ ∃ A c, F x = some ((getS s x).val A c) ∧ RepP w G (getS s x) A c)
theorem MapT.keep {w w' : World} {b n : Nat} {G : Nat → Prop} {s : List Bd} (h : MapT w b n G s) (hm : w'.heap[b]? = w.heap[b]?) (hG : ∀ p : Addr, G p.block → w'.cell? p = w.cell? p) : MapT w' b n G s := by
 obtain ⟨F, h1, h2⟩ := h;exact ⟨F, h1.keep hm, fun x k1 k2 k3 => (h2 x k1 k2 k3).imp id fun ⟨a, A, c, e, r⟩ => ⟨a, A, c, e, RepP.mono (fun _ h => h) (fun _ hp => hG _ hp) _ _ _ r⟩⟩
theorem MapT.lt {w : World} {b n : Nat} {G : Nat → Prop} {s : List Bd} (h : MapT w b n G s) : b < w.heap.size := h.choose_spec.1.lt
theorem MapT.below {w w' : World} {b n B : Nat} {G : Nat → Prop} {s : List Bd} (h : MapT w b n G s) (hb : Below B w w') (hB : b < B) (hG : ∀ k, G k → k < B) : MapT w' b n G s :=
 h.keep (hb.block _ hB) (fun _ hp => hb.cell (hG _ hp))
theorem MapT.look {w : World} {b n : Nat} {G : Nat → Prop} {s : List Bd} (h : MapT w b n G s) {x : Tm} (k1 : x.kind = 1) (k2 : x.kids = []) (k3 : qbl x) :
  (hasS s x = false ∧ (Instr.lookup 62 (.map (some b)) (keyV x) true).run Tryz.prog w = .ok (.tuple #[qh6, .bool false]) w) ∨
  (∃ A c, hasS s x = true ∧ RepP w G (getS s x) A c ∧ (Instr.lookup 62 (.map (some b)) (keyV x) true).run Tryz.prog w = .ok (.tuple #[(getS s x).val A c, .bool true]) w) := by
 obtain ⟨F, h1, h2⟩ := h;have hl := h1.look k3;rcases h2 x k1 k2 k3 with ⟨e1, e2⟩ | ⟨e1, A, c, e2, r⟩
 ·left; rw [e2] at hl; exact ⟨e1, hl⟩
 ·right; rw [e2] at hl; exact ⟨A, c, e1, r, hl⟩
theorem qbu {w : World} {ops : Array Oper} {rest : List Oper} {o : Oper} {a : Act} {Q : Exit → Act → World → Prop} {m k r : Value} {t : TypeId} (hgd : o.guard = none) (om ok : Operand)
  (ho : o.op = .lookup t om ok true) (hm : a.eval om = m) (hk : a.eval ok = k) (hrun : (Instr.lookup t m k true).run Tryz.prog w = .ok r w) (h : wpList Tryz.prog ops Q rest (a.put o.dst r) w) : wpList Tryz.prog ops Q (o :: rest) a w := by
 refine wpList_plain hgd fun K hK => ?_;unfold Oper.wp;simp [execOp, ho, hm, hk, hrun, Result.andThen];exact hK _ _ h
theorem check_keyable {t : Tm} (h : t.check = 0) (hk : t.kind = 1) : t.kids = [] ∧ qbl t := by
 obtain ⟨k, n, s, l⟩ := t;have hk : k = 1 := hk;subst hk;obtain ⟨h1, h2, h3, h4⟩ := qm2 (.inl rfl) h;refine ⟨h3, ?_, h1, h2⟩;show n.size ≤ maxLen;rw [qex];have : n.data.toList.length ≤ 24 := by
  unfold qco at h4;simp only [Bool.and_eq_true, decide_eq_true_eq] at h4;exact h4.1.1
 unfold maxLen; omega
theorem getS_noneU {x : Tm} : ∀ {s : List Bd}, hasS s x = false → getS s x = x
 | [], _ => rfl
 | b :: r, h => by
  rw [hasS] at h;rw [getS]
  split at h
  ·cases h
  ·rename_i hne; rw [if_neg hne]; exact getS_noneU h
def PutU (G : Nat → Prop) (u : Tm) (w : World) (e : Ending) (w' : World) : Prop :=
 ∃ A c, e = .returned (u.val A c) ∧ RepP w' (fun k => G k ∨ (w.heap.size ≤ k ∧ k < w'.heap.size)) u A c ∧ Below w.heap.size w w'
theorem qez {G : Nat → Prop} {w Y : World} {u : Tm} {A : Option Addr} {c b : Nat} (hG : ∀ k, G k → k < w.heap.size) (hB : Below w.heap.size w Y) (hb : w.heap.size ≤ b) (hrep : RepP Y (fun k => G k ∨ (w.heap.size ≤ k ∧ k < Y.heap.size ∧ k ≠ b)) u A c) {x y z v : Value} :
  PutU G u w (.returned (u.val A c)) ((((Y.setCell ⟨b, 0, none⟩ x).setCell ⟨b, 1, none⟩ y).setCell ⟨b, 2, none⟩ z).setCell ⟨b, 3, none⟩ v) := by
 refine ⟨A, c, rfl, ?_, ?_⟩
 ·refine RepP.mono ?_ ?_ _ _ _ hrep
  ·rintro k (h | ⟨h1, h2, -⟩)
   ·exact .inl h
   ·exact .inr ⟨h1, by simp [World.setCell]; omega⟩
  ·intro q h1;have hne : q.block ≠ b := by
    rcases h1 with h | ⟨_, _, h⟩
    ·have := hG _ h; omega
    ·exact h
   have hq : ∀ o, (⟨b, o, none⟩ : Addr) ≠ q := fun o e => by rw [← e] at hne; exact hne rfl
   rw [World.cell?_setCell_other _ _ _ _ (hq _), World.cell?_setCell_other _ _ _ _ (hq _), World.cell?_setCell_other _ _ _ _ (hq _), World.cell?_setCell_other _ _ _ _ (hq _)]
 ·iterate 4 refine Below.setCell ?_ (by exact hb) _
  exact hB
set_option maxHeartbeats 4000000 in
theorem uput_var (b nn : Nat) (G : Nat → Prop) (s : List Bd) (t : Tm) (A : Option Addr) (c : Nat) (w : World) (hc : t.check = 0) (hk : t.kind = 1) (hG : ∀ k, G k → k < w.heap.size) (hm : MapT w b nn G s) (hrep : RepP w G t A c) :
  Calls Tryz.prog 68 #[.map (some b), t.val A c] w (PutU G (t.put s) w) := by
 rw [Tm.put_var s t hk];obtain ⟨hkids, hkey⟩ := check_keyable hc hk;obtain ⟨V, hV⟩ : ∃ V, V = (w.alloc (.cells #[.int .i64 t.kind, .string t.name, .int .i64 t.sort, .slice A t.kids.length c] 24)).alloc (.cells #[.int .i64 0, .string ⟨#[]⟩, .int .i64 0, .slice none 0 0] 24) := ⟨_, rfl⟩;have h2 : Two w t (.mk 0 ⟨#[]⟩ 0 []) A none c 0 V := by rw [hV]; exact Two.new w t (.mk 0 ⟨#[]⟩ 0 []) A none c 0
 have IV := qdi t A c V;rw [show (t.kind == 1) = true by rw [beq_iff_eq]; exact hk] at IV;have IV := Lib.hid IV;have KE : Hid (∀ Z, Calls Tryz.prog 47 #[t.val A c] Z fun e w' => e = .returned (keyV t) ∧ Lay Z.heap.size Z w') := Lib.hid fun Z => qii t A c Z;have hbw := hm.lt;have hcase : ∀ Z, Lay V.heap.size V Z → _ := fun Z hZ => (hm.below (qae h2.lay.below hZ.below h2.lay.size) hbw hG).look hk hkids hkey;have HR : Hid (∀ Z, Below w.heap.size w Z → RepP Z G t A c) := Lib.hid fun Z hZ => RepP.mono (fun _ h => h) (fun p hp => hZ.cell (hG _ hp)) _ _ _ hrep;obtain ⟨a0, a1, a2, a3, -⟩ := qad h2.one;obtain ⟨z0, z1, z2, z3, -⟩ := qad h2.two;have H2 := Lib.hid h2; clear h2 hrep;have HV := Lib.hid hV; clear hV;have HC := Lib.hid hcase; clear hcase;clear hkids hkey hc hk;simp only [Tm.val] at IV KE ⊢
 go_enter Tryz.func68, Tryz.ntmps68
 go_wp2_with fail
 rw [← HV.out];go_wp2_with fail
 refine IV.out.mono ?_; clear IV a0 a1 a2 a3 z0 z1 z2 z3;rintro e w1 ⟨rfl, hl1⟩;obtain ⟨a0, a1, a2, a3, -⟩ := qad (H2.out.go hl1).one;go_wp2_with fail
 refine (KE.out w1).mono ?_; clear KE a0 a1 a2 a3;rintro e w2 ⟨rfl, hl2⟩;have hl12 := hl1.trans (hl2.mono hl1.size);have H22 := Lib.hid (H2.out.go hl12);have hcs := HC.out w2 hl12;clear hl1 hl2 hl12 HC;have hB2 := H22.out.lay.below;have HS2 := Lib.hid H22.out.lt;rcases hcs with ⟨hh, hrun⟩ | ⟨A1, c1, hh, hr1, hrun⟩
 ·simp only [qh6] at hrun;obtain ⟨X, hX⟩ : ∃ X, X = w2.alloc (.cells #[.int .i64 0, .string ⟨#[]⟩, .int .i64 0, .slice none 0 0] 24) := ⟨_, rfl⟩;have hlX : Lay w2.heap.size w2 X := by rw [hX]; exact (Lay.refl _ _).alloc (Nat.le_refl _) _
  have hsX : X.heap.size = w2.heap.size + 1 := by rw [hX]; simp
  have hux : X.heap[w2.heap.size]? = some (.cells #[.int .i64 0, .string ⟨#[]⟩, .int .i64 0, .slice none 0 0] 24 (0, 0)) := by rw [hX]; exact heap_alloc_new _ _
  have HX2 := H22.out.go hlX;obtain ⟨a0, a1, a2, a3, -⟩ := qad HX2.one;obtain ⟨z0, z1, z2, z3, zf⟩ := qad HX2.two;obtain ⟨d0, d1, d2, d3, -⟩ := qad hux;have HB := Lib.hid HX2.lay.below;clear hlX hux HX2;rw [hX] at a0 a1 a2 a3 z0 z1 z2 z3 zf d0 d1 d2 d3;have HX := Lib.hid hX; clear hX;have hg : getS s t = t := getS_noneU hh;rw [hg];go_wp2_with (at_lookup; refine qbu rfl _ _ rfl rfl rfl hrun ?_)
  rw [← HX.out] at a0 a1 a2 a3 z0 z1 z2 z3 ⊢;have hs2 := HS2.out;refine bodyPost_ret (v := t.val A c) ?_ rfl ?_
  ·simp [results, Tryz.results68, go_sem, z0, z1, z2, z3, Tm.val]
  rw [hg];exact qez hG HB.out (Nat.le_succ _) (RepP.mono (fun _ h => .inl h) (fun _ _ => rfl) _ _ _ (HR.out X HB.out))
 ·obtain ⟨u, hu⟩ : ∃ u, u = getS s t := ⟨_, rfl⟩;rw [← hu] at hr1 hrun ⊢;have HU := Lib.hid hu; clear hu;simp only [Tm.val] at hrun;obtain ⟨X, hX⟩ : ∃ X, X = w2.alloc (.cells #[.int .i64 u.kind, .string u.name, .int .i64 u.sort, .slice A1 u.kids.length c1] 24) := ⟨_, rfl⟩;have hlX : Lay w2.heap.size w2 X := by rw [hX]; exact (Lay.refl _ _).alloc (Nat.le_refl _) _
  have hsX : X.heap.size = w2.heap.size + 1 := by rw [hX]; simp
  have hux : X.heap[w2.heap.size]? = some (.cells #[.int .i64 u.kind, .string u.name, .int .i64 u.sort, .slice A1 u.kids.length c1] 24 (0, 0)) := by rw [hX]; exact heap_alloc_new _ _
  have HX2 := H22.out.go hlX;obtain ⟨a0, a1, a2, a3, -⟩ := qad HX2.one;obtain ⟨z0, z1, z2, z3, zf⟩ := qad HX2.two;obtain ⟨d0, d1, d2, d3, -⟩ := qad hux;have HB := Lib.hid HX2.lay.below;clear hlX hux HX2;rw [hX] at a0 a1 a2 a3 z0 z1 z2 z3 zf d0 d1 d2 d3;have HX := Lib.hid hX; clear hX;go_wp2_with (at_lookup; refine qbu rfl _ _ rfl rfl rfl hrun ?_)
  rw [← HX.out] at a0 a1 a2 a3 z0 z1 z2 z3 ⊢;have hs2 := HS2.out;refine bodyPost_ret (v := u.val A1 c1) ?_ rfl ?_
  ·simp [results, Tryz.results68, go_sem, z0, z1, z2, z3, Tm.val]
  have hb2X : Below w2.heap.size w2 X := by rw [HX.out]; exact qaf (Nat.le_refl _) _
  rw [← HU.out];exact qez hG HB.out (Nat.le_succ _) (RepP.mono (fun _ h => .inl h) (fun p hp => hb2X.cell (by have := hG _ hp; omega)) _ _ _ hr1)
theorem putU_same {G : Nat → Prop} {w Y : World} {u : Tm} {A : Option Addr} {c : Nat} (hG : ∀ k, G k → k < w.heap.size) (hrep : RepP w G u A c) (hB : Below w.heap.size w Y) {x y z v : Value} {b : Nat} (hb : w.heap.size ≤ b) :
  PutU G u w (.returned (u.val A c)) ((((Y.setCell ⟨b, 0, none⟩ x).setCell ⟨b, 1, none⟩ y).setCell ⟨b, 2, none⟩ z).setCell ⟨b, 3, none⟩ v) :=
 qez hG hB hb (RepP.mono (fun _ h => .inl h) (fun _ hp => hB.cell (hG _ hp)) _ _ _ hrep)
theorem qga (n : Nat) : (madeCells qh6.cells (n * 4)).toList = itCells (List.replicate n ((Tm.mk 0 ⟨#[]⟩ 0 [], none, 0) : It)) := by
 have hz : qh6.cells = #[.int .i64 0, .string ⟨#[]⟩, .int .i64 0, .slice none 0 0] := rfl;rw [hz];refine List.ext_getElem? fun j => ?_;by_cases hj : j < n * 4
 ·obtain ⟨i, r, hr, rfl⟩ : ∃ i r, r < 4 ∧ j = i * 4 + r := ⟨j / 4, j % 4, Nat.mod_lt _ (by decide), by omega⟩;have g := qcf (List.replicate n ((Tm.mk 0 ⟨#[]⟩ 0 [], none, 0) : It)) i (by rw [List.length_replicate]; omega);simp only [List.getElem_replicate] at g;obtain ⟨g0, g1, g2, g3⟩ := g;have e : ∀ z : Array Value, z.size = 4 → (madeCells z (n * 4)).toList[i * 4 + r]? = some (z[r]!) := fun z hz => by
   have : (i * 4 + r) % 4 = r := by omega
   simp [madeCells, hz, hj, this]
  rw [e _ rfl]
  match r, hr with
  | 0, _ => exact g0.symm
  | 1, _ => exact g1.symm
  | 2, _ => exact g2.symm
  | 3, _ => exact g3.symm
 ·rw [List.getElem?_eq_none (by simp [madeCells]; omega), List.getElem?_eq_none (by rw [qa6, List.length_replicate]; omega)]
set_option maxHeartbeats 4000000 in
theorem uput_any (b nn : Nat) (G : Nat → Prop) (s : List Bd) (n : Nat) : ∀ (t : Tm) (A : Option Addr) (c : Nat) (w : World), t.size ≤ n → n ≤ 1000000 → t.check = 0 → (∀ k, G k → k < w.heap.size) → MapT w b nn G s → RepP w G t A c →
  Calls Tryz.prog 68 #[.map (some b), t.val A c] w (PutU G (t.put s) w) := by
 have mixed : Tryz.prog.follows .mixedOrders = true := by kernel_rfl
 induction n with
 | zero => intro t _ _ _ h; have := t.size_pos; omega
 | succ n ih =>
  intro t A cap w hn hb hchk hG hm hrep;by_cases hk : t.kind = 1
  ·exact uput_var b nn G s t A cap w hchk hk hG hm hrep
  obtain ⟨tk, tn, ts, l⟩ := t;have hk' : tk ≠ 1 := hk;have hchl : ∀ u ∈ l, u.check = 0 := fun u hu => by
   rcases qc4 hchk with ⟨-, rfl⟩ | ⟨-, -, hc⟩
   ·simp at hu
   ·exact qb0.1 hc u hu
  rw [Tm.put_app s tk tn ts l hk'];have kq : (tk == 1) = false := by rw [beq_eq_false_iff_ne]; exact hk'
  clear hk hk' hchk;rw [Tm.size] at hn;have hrep0 := hrep;rw [qa7] at hrep;obtain ⟨hr1, hr2⟩ := hrep;have hls := Tm.length_le_sizes l;obtain ⟨W1, hW1⟩ : ∃ W1, W1 = w.alloc (.cells #[.int .i64 tk, .string tn, .int .i64 ts, .slice A l.length cap] 24) := ⟨_, rfl⟩;obtain ⟨W2, hW2⟩ : ∃ W2, W2 = W1.alloc (.cells #[.int .i64 0, .string ⟨#[]⟩, .int .i64 0, .slice none 0 0] 24) := ⟨_, rfl⟩;have s1 : W1.heap.size = w.heap.size + 1 := by rw [hW1]; simp
  have s2 : W2.heap.size = w.heap.size + 1 + 1 := by rw [hW2]; simp [s1]
  have b1 : Below w.heap.size w W1 := by rw [hW1]; exact qaf (Nat.le_refl _) _
  have b2 : Below W1.heap.size W1 W2 := by rw [hW2]; exact qaf (Nat.le_refl _) _
  have hB : Below w.heap.size w W2 := b1.trans (b2.mono (by omega));have hx1 : W2.heap[w.heap.size]? = some (.cells #[.int .i64 tk, .string tn, .int .i64 ts, .slice A l.length cap] 24 (0, 0)) := by rw [b2.block _ (by omega), hW1]; exact heap_alloc_new _ _
  have hx2 : W2.heap[w.heap.size + 1]? = some (.cells #[.int .i64 0, .string ⟨#[]⟩, .int .i64 0, .slice none 0 0] 24 (0, 0)) := by rw [hW2, ← s1]; exact heap_alloc_new _ _
  have HW : Hid (W2 = (w.alloc (.cells #[.int .i64 tk, .string tn, .int .i64 ts, .slice A l.length cap] 24)).alloc (.cells #[.int .i64 0, .string ⟨#[]⟩, .int .i64 0, .slice none 0 0] 24)) := by rw [hW2, hW1]; exact rfl
  have IV := qdi (.mk tk tn ts l) A cap W2;rw [show ((Tm.mk tk tn ts l).kind == 1) = false from kq] at IV;have IV := Lib.hid IV;obtain ⟨r0, r1, r2, r3, -⟩ := qad hx1;have HX1 := Lib.hid hx1; clear hx1;have HX2 := Lib.hid hx2; clear hx2;have HB := Lib.hid hB; clear hB b1 b2 hW1 hW2 s1;have IH := Lib.hid ih; clear ih;have HG := Lib.hid hG; clear hG;have HMP := Lib.hid hm; clear hm;have HRL := Lib.hid hr2; clear hr2;have HCH := Lib.hid hchl; clear hchl;simp only [Tm.val, Tm.kind, Tm.name, Tm.sort, Tm.kids] at IV ⊢;go_enter Tryz.func68, Tryz.ntmps68
  go_wp2_with fail
  rw [← HW.out];go_wp2_with fail
  refine IV.out.mono ?_; clear IV r0 r1 r2 r3 HW;rintro e w3 ⟨rfl, hl3⟩;have hs3 := hl3.size;have hy1 := (hl3.below.block w.heap.size (by omega)).trans HX1.out;have hy2 := (hl3.below.block (w.heap.size + 1) (by omega)).trans HX2.out;have HB3 := Lib.hid (HB.out.trans (hl3.below.mono (by omega))); clear HB HX1 HX2 hl3;obtain ⟨r0, r1, r2, r3, rf⟩ := qad hy1;obtain ⟨z0, z1, z2, z3, zf⟩ := qad hy2;by_cases h0 : l = []
  ·subst h0;have HRP := Lib.hid hrep0; clear hrep0;clear hy1 hy2;go_wp2_with fail
   refine bodyPost_ret (v := .agg #[.int .i64 tk, .string tn, .int .i64 ts, .slice A 0 cap]) ?_ rfl ?_
   ·simp [results, Tryz.results68, go_sem, z0, z1, z2, z3]
   exact putU_same HG.out HRP.out HB3.out (Nat.le_succ _)
  clear hrep0;have hpos : 0 < l.length := List.length_pos_iff.2 h0;have q0 : ((l.length : Int) == 0) = false := by rw [beq_eq_false_iff_ne]; omega
  have HY1 := Lib.hid hy1; clear hy1;have HY2 := Lib.hid hy2; clear hy2;obtain ⟨i0, hi0, hz0, hz1, hz2⟩ := info_parts qca;go_wp2_with (at_make; refine wpList_make_full w3 rfl _ _ 22 rfl W2.heap.size 24 i0 (.agg #[.int .i64 0, .string ⟨#[]⟩, .int .i64 0, .slice none 0 0]) 4 Tryz.underlying22 hi0 hz0 hz1 _ _ _ _ l.length rfl rfl rfl rfl (by rw [hz2]; omega) (by unfold maxLen; omega) hs3 ?_)
  intro w4 hown hgr;obtain ⟨g, hg⟩ : ∃ g, g = w3.heap.size := ⟨_, rfl⟩;have hrow0 : RowT w4 W2.heap.size (fun k => G k ∨ W2.heap.size ≤ k) (.slice (some ⟨g, 0, none⟩) l.length l.length) (List.replicate l.length ((Tm.mk 0 ⟨#[]⟩ 0 [], none, 0) : It)) :=
   ⟨by rw [List.length_replicate, ← qga, hg, s2]; exact hown, fun x hx => by obtain rfl := List.eq_of_mem_replicate hx; exact qf1 _ _ _ (Nat.zero_le _)⟩
  have hb4 : Below w3.heap.size w3 w4 := (Below.refl w3.heap.size w3).grown hgr (Nat.le_refl _) (fun j e => by cases e);have HB4 := Lib.hid (HB3.out.trans (hb4.mono (by omega)));have hy1 := (hb4.block w.heap.size (by omega)).trans HY1.out;have hy2 := (hb4.block (w.heap.size + 1) (by omega)).trans HY2.out;have HROW0 := Lib.hid hrow0; clear hrow0 hown;clear r0 r1 r2 r3 rf z0 z1 z2 z3 zf HY1 HY2 HB3;have HY1 := Lib.hid hy1;have HY2 := Lib.hid hy2;obtain ⟨r0, r1, r2, r3, rf⟩ := qad hy1;clear hy1 hy2 hgr hb4 hi0 hz0 hz1 hz2;rw [← hg];have hgw : W2.heap.size ≤ g := by omega
  clear hg;go_wp2_with fail
  clear r0 r1 r2 r3 rf;go_loopw [34] (fun a wr => ∃ (i : Nat) (cur : List It), a = .int .i64 i ∧ i ≤ l.length ∧ cur.length = l.length ∧ Hid (RowT wr W2.heap.size (fun k => G k ∨ W2.heap.size ≤ k) (.slice (some ⟨g, 0, none⟩) l.length l.length) cur) ∧
    Hid (∀ j, (h : j < cur.length) → (h' : j < l.length) → j < i → cur[j].1 = l[j].put s) ∧ Hid (Below w.heap.size w wr) ∧
    Hid (wr.heap[w.heap.size]? = some (.cells #[.int .i64 tk, .string tn, .int .i64 ts, .slice A l.length cap] 24 (0, 0))) ∧ Hid (wr.heap[w.heap.size + 1]? = some (.cells #[.int .i64 0, .string ⟨#[]⟩, .int .i64 0, .slice none 0 0] 24 (0, 0))))
   (fun a _ => l.length - (intOf a).toNat)
  case atStart => exact ⟨0, _, rfl, Nat.zero_le _, by simp, HROW0.out, fun j _ _ h => absurd h (Nat.not_lt_zero j), HB4.out, HY1.out, HY2.out⟩
  case round =>
   clear HROW0 HB4 HY1 HY2;obtain ⟨i, cur, rfl, hi, hcl, HR, HM, HBW, HT, HC⟩ := hrel;have hsw := (Array.getElem?_eq_some_iff.1 HC.out).1;by_cases hlt : i < l.length
   ·have hic : i < cur.length := by omega
    have hgl := HR.out.lt g rfl;rcases HRL.out.2.2 with h | ⟨kb, off, hA, hGb, hl⟩
    ·exact absurd h h0
    subst hA;have hkb := HG.out kb hGb;have hws := HBW.out.size;have hlr : qao wr G l kb off := qao.mono (fun _ h => h) (fun p hp => HBW.out.cell (HG.out _ hp)) _ _ _ hGb hl;obtain ⟨Ai, ci, k0, k1, k2, k3, hri⟩ := hlr.get i hlt;have hsz : l[i].size ≤ n := by have := Tm.sizes_get l i hlt; omega
    have hch := HCH.out l[i] (List.getElem_mem hlt);obtain ⟨u, hu⟩ : ∃ u, u = l[i] := ⟨_, rfl⟩;rw [← hu] at k0 k1 k2 k3 hri hsz hch;have HU := Lib.hid hu; clear hu;obtain ⟨X, hX⟩ : ∃ X, X = wr.alloc (.cells #[.int .i64 u.kind, .string u.name, .int .i64 u.sort, .slice Ai u.kids.length ci] 24) := ⟨_, rfl⟩;have hbX : Below wr.heap.size wr X := by rw [hX]; exact qaf (Nat.le_refl _) _
    have hsX : X.heap.size = wr.heap.size + 1 := by rw [hX]; simp
    have hxb : X.heap[wr.heap.size]? = some (.cells #[.int .i64 u.kind, .string u.name, .int .i64 u.sort, .slice Ai u.kids.length ci] 24 (0, 0)) := by rw [hX]; exact heap_alloc_new _ _
    have hwX : Below w.heap.size w X := HBW.out.trans (hbX.mono hws);have CL := Lib.hid (IH.out u Ai ci X hsz (by omega) hch (fun k hk => by have := HG.out k hk; omega) (HMP.out.below hwX HMP.out.lt HG.out) (RepP.mono (fun _ h => h) (fun p hp => hbX.cell (by have := HG.out _ hp; omega)) _ _ _ hri));obtain ⟨d0, d1, d2, d3, -⟩ := qad hxb;rw [hX] at d0 d1 d2 d3;have HX := Lib.hid hX; clear hX;have HBX := Lib.hid hbX; clear hbX hxb hwX hlr hl;have i1 : (0 : Int) ≤ (i : Int) := Int.natCast_nonneg _;have i2 : (i : Int) < (l.length : Int) := by omega
    simp only [Tm.val] at CL;go_wp2_with fail
    rw [← HX.out];refine CL.out.mono ?_; clear CL k0 k1 k2 k3 d0 d1 d2 d3;rintro e w5 ⟨A5, c5, rfl, hrep, hbel⟩;have hs5 := hbel.size;have hb5 : Below wr.heap.size wr w5 := qae HBX.out hbel HBX.out.size;have hR5 := HR.out.below hb5;obtain ⟨m0, m1, m2, m3, m4⟩ := hR5.slot hcl.symm i hic;have hX5 : RepP w5 (fun k => (G k ∨ W2.heap.size ≤ k) ∧ k < w5.heap.size ∧ g ≠ k) (u.put s) A5 c5 := RepP.mono (fun k h => by
     rcases h with h | ⟨h1, h2⟩
     ·have := HG.out k h; exact ⟨.inl h, by omega, by omega⟩
     ·exact ⟨.inr (by omega), h2, by omega⟩) (fun _ _ => rfl) _ _ _ hrep
    have hset := hR5.set hcl.symm i (by omega) (u.put s, A5, c5) hX5;have hBW5 : Below w.heap.size w w5 := HBW.out.trans (hb5.mono hws);have hT5 := (hb5.block _ (by omega)).trans HT.out;have hC5 := (hb5.block _ (by omega)).trans HC.out;have HSE := Lib.hid hset; clear hset;have HBW5 := Lib.hid hBW5; clear hBW5;have HT5 := Lib.hid hT5; clear hT5;have HC5 := Lib.hid hC5; clear hC5;clear hrep hR5 hbel hb5 HBX hX5;generalize cur[i] = old at m0 m1 m2 m3;simp only [Tm.val];go_wp2_with fail
    go_roundw
    case rel =>
     refine ⟨i + 1, cur.set i (u.put s, A5, c5), by go_num, by omega, by rw [List.length_set]; exact hcl, HSE.out, ?_, ?_, ?_, ?_⟩
     ·intro j h h' hj;have h2 : j < cur.length := by simpa using h
      rw [List.getElem_set];by_cases hij : i = j
      ·subst hij;rw [if_pos rfl];show u.put s = l[i].put s;rw [HU.out]
      ·rw [if_neg hij];exact HM.out j h2 h' (by omega)
     ·iterate 4 refine Below.setCell ?_ (by show w.heap.size ≤ g; omega) _
      exact HBW5.out
     ·iterate 4 rw [Below.heap_setCell _ _ _ _ (by show w.heap.size ≠ g; omega)]
      exact HT5.out
     ·iterate 4 rw [Below.heap_setCell _ _ _ _ (by show w.heap.size + 1 ≠ g; omega)]
      exact HC5.out
    case measure => simp [intOf]; omega
   ·obtain rfl : i = l.length := by omega
    obtain ⟨t0, t1, t2, t3, tf⟩ := qad HT.out;obtain ⟨c0, c1, c2, c3, cf⟩ := qad HC.out;have hgl := HR.out.lt g rfl;obtain ⟨A7, c7, he, hS⟩ := HR.out.toS (P := fun k => G k ∨ (W2.heap.size ≤ k ∧ k < wr.heap.size)) (fun k h h' => h.imp id (fun h => ⟨h, h'⟩)) (fun k h h' => .inr ⟨h, h'⟩);injection he with he1 he2 he3;subst he1 he3;have hmap : cur.map (·.1) = Tm.puts s l := by
     rw [Tm.puts_eq];refine List.ext_getElem (by simp [hcl]) fun j h1 h2 => ?_;have hj : j < cur.length := by simpa using h1
     have := HM.out j hj (by omega) (by omega);simp [this]
    have hpl := Tm.puts_length s l;rw [hmap] at hS;have HS := Lib.hid hS; clear hS he2 hmap;have HPL := Lib.hid hpl; clear hpl;go_wp2_with fail
    refine bodyPost_ret (v := .agg #[.int .i64 tk, .string tn, .int .i64 ts, .slice (some ⟨g, 0, none⟩) l.length l.length]) ?_ rfl ?_
    ·simp [results, Tryz.results68, go_sem, c0, c1, c2, c3]
    have e : (Value.agg #[.int .i64 tk, .string tn, .int .i64 ts, .slice (some ⟨g, 0, none⟩) l.length l.length]) = (Tm.mk tk tn ts (Tm.puts s l)).val (some ⟨g, 0, none⟩) l.length := by
     simp only [Tm.val, Tm.kind, Tm.name, Tm.sort, Tm.kids, HPL.out]
    rw [e];refine qez HG.out ?_ (Nat.le_succ _) ?_
    ·exact HBW.out.setCell (p := ⟨w.heap.size, 3, none⟩) (Nat.le_refl _) _
    ·rw [qa7];refine ⟨hr1, RepS.mono ?_ ?_ HS.out⟩
     ·rintro k (h | ⟨h1, h2⟩)
      ·exact .inl h
      ·exact .inr ⟨by omega, by simpa [World.setCell] using h2, by omega⟩
     ·intro q h1;have hne : q.block ≠ w.heap.size := by
       rcases h1 with h | ⟨h, _⟩
       ·have := HG.out _ h; omega
       ·omega
      exact World.cell?_setCell_other _ _ _ _ (fun e => hne (by rw [← e]))
end Go.Proofs.YtpjmdilpldaapaaGreatDoor
