/- Usim (joined by shake.py). -/
import Derived.Test.YtpjmdilpldaapaaGreatDoorJ6
namespace Go.Proofs.YtpjmdilpldaapaaGreatDoor
mutual
def Tm.ren (f : ByteArray → Int → ByteArray) : Tm → Tm
 | .mk k n s l => .mk k (if k = 1 then f n s else n) s (Tm.rens f l)
def Tm.rens (f : ByteArray → Int → ByteArray) : List Tm → List Tm
 | [] => []
 | t :: r => Tm.ren f t :: Tm.rens f r
end
theorem qjl (f : ByteArray → Int → ByteArray) : ∀ l, Tm.rens f l = l.map (Tm.ren f)
 | [] => rfl
 | t :: r => by rw [Tm.rens, qjl f r, List.map_cons]
theorem qe6 (f : ByteArray → Int → ByteArray) (l : List Tm) : (Tm.rens f l).length = l.length := by rw [qjl, List.length_map]
theorem qbq (f : ByteArray → Int → ByteArray) (t : Tm) : (t.ren f).kind = t.kind := by cases t; rw [Tm.ren]; rfl
theorem qen (f : ByteArray → Int → ByteArray) (t : Tm) : (t.ren f).sort = t.sort := by cases t; rw [Tm.ren]; rfl
theorem qgz (f : ByteArray → Int → ByteArray) (t : Tm) : (t.ren f).kids = Tm.rens f t.kids := by cases t; rw [Tm.ren]; rfl
theorem qmz (f : ByteArray → Int → ByteArray) (t : Tm) : (t.ren f).name = if t.kind = 1 then f t.name t.sort else t.name := by cases t; rw [Tm.ren]; rfl
mutual
theorem qmq (f : ByteArray → Int → ByteArray) : ∀ t : Tm, (t.ren f).size = t.size
 | .mk k n s l => by rw [Tm.ren, Tm.size, Tm.size, qkf f l]
theorem qkf (f : ByteArray → Int → ByteArray) : ∀ l : List Tm, Tm.sizes (Tm.rens f l) = Tm.sizes l
 | [] => rfl
 | t :: r => by rw [Tm.rens, Tm.sizes, Tm.sizes, qmq f t, qkf f r]
end
mutual
theorem qld (f : ByteArray → Int → ByteArray) : ∀ t : Tm, (t.ren f).depth = t.depth
 | .mk k n s l => by rw [Tm.ren, Tm.depth, Tm.depth, qi9 f l]
theorem qi9 (f : ByteArray → Int → ByteArray) : ∀ l : List Tm, Tm.depths (Tm.rens f l) = Tm.depths l
 | [] => rfl
 | t :: r => by rw [Tm.rens, Tm.depths, Tm.depths, qld f t, qi9 f r]
end
mutual
theorem all_ren (f : ByteArray → Int → ByteArray) : ∀ t : Tm, (t.ren f).all = t.all.map (Tm.ren f)
 | .mk k n s l => by
  have h := qnf f l;have e : Tm.ren f (.mk k n s l) = .mk k (if k = 1 then f n s else n) s (Tm.rens f l) := by rw [Tm.ren]
  rw [Tm.all, List.map_cons, e, Tm.all, h]
theorem qnf (f : ByteArray → Int → ByteArray) : ∀ l : List Tm, Tm.alls (Tm.rens f l) = (Tm.alls l).map (Tm.ren f)
 | [] => rfl
 | t :: r => by rw [Tm.rens, Tm.alls, Tm.alls, List.map_append, all_ren f t, qnf f r]
end
def InV (V : Tm → Prop) (t : Tm) : Prop := ∀ y ∈ t.all, y.kind = 1 → V y
theorem InV.kid {V : Tm → Prop} {t k : Tm} (h : InV V t) (hk : k ∈ t.kids) : InV V k := fun y hy hk1 => h y (qeb hk hy) hk1
structure RenV (f : ByteArray → Int → ByteArray) (V : Tm → Prop) : Prop where
 var : ∀ y, V y → y.kind = 1 ∧ y.kids = []
 inj : ∀ y z, V y → V z → y.ren f = z.ren f → y = z
 nm : ∀ y, V y → qcp (f y.name y.sort).data.toList = true
section
variable {f : ByteArray → Int → ByteArray} {V : Tm → Prop}
mutual
theorem qlf (hv : RenV f V) : ∀ t : Tm, t.check = 0 → InV V t → (t.ren f).check = 0
 | .mk k n s l, h, hV => by
  rw [Tm.ren];by_cases hk : k = 1
  ·subst hk;have hn := hv.nm _ (hV _ (mem_self _) rfl);have hn1 : qcp (f n s).data.toList = true := hn;clear hn;rcases qb5 h with ⟨-, rfl⟩ | ⟨h3, -, -⟩
   ·rw [Tm.check, if_pos (.inl rfl)] at h ⊢;rw [if_pos rfl]
    split at h
    ·omega
    ·rename_i g
     rw [if_neg (by simpa [Tm.rens] using g), if_neg (by rw [hn1]; simp)]
   ·omega
  ·rw [if_neg hk];rcases qb5 h with ⟨-, rfl⟩ | ⟨h3, h4, h5⟩
   ·exact h
   ·subst h3;have h6 := qjb hv l h5 fun k hk y hy hk1 => hV y (by rw [Tm.all]; exact List.mem_cons_of_mem _ (qed.2 ⟨k, hk, hy⟩)) hk1;rw [Tm.check] at h ⊢;rw [qe6];rw [if_neg (by omega), if_pos rfl] at h ⊢
    split at h
    ·omega
    ·split at h
     ·omega
     ·split at h
      ·omega
      ·rename_i g1 g2 g3
       rw [if_neg g1, if_neg g2, if_neg g3]; exact h6
theorem qjb (hv : RenV f V) : ∀ l : List Tm, Tm.checks l = 0 → (∀ k ∈ l, InV V k) → Tm.checks (Tm.rens f l) = 0
 | [], _, _ => rfl
 | t :: r, h, hV => by
  obtain ⟨h1, h2⟩ := qbi h;rw [Tm.rens, Tm.checks, if_neg (by simpa using qlf hv t h1 (hV t (List.mem_cons_self ..)))];exact qjb hv r h2 fun k hk => hV k (List.mem_cons_of_mem _ hk)
end
theorem valid_ren (hv : RenV f V) {t : Tm} (h : t.check = 0) (hV : InV V t) : (t.ren f).valid = 0 ↔ t.valid = 0 := by
 rw [qat, qat, qmq, qld];exact ⟨fun g => ⟨h, g.2⟩, fun g => ⟨qlf hv t h hV, g.2⟩⟩
mutual
theorem qly (hv : RenV f V) : ∀ t u : Tm, InV V t → InV V u → t.ren f = u.ren f → t = u
 | .mk k n s l, .mk k' n' s' l', hV, hV', e => by
  have hkk : k = k' := by have := congrArg Tm.kind e; rw [qbq, qbq] at this; exact this
  by_cases hk : k = 1
  ·exact hv.inj _ _ (hV _ (mem_self _) hk) (hV' _ (mem_self _) (by show k' = 1; omega)) e
  ·rw [Tm.ren, Tm.ren, if_neg hk, if_neg (by omega)] at e;injection e with e1 e2 e3 e4;have h := qmy hv l l' (fun k hk => hV.kid hk) (fun k hk => hV'.kid hk) e4;rw [e1, e2, e3, h]
theorem qmy (hv : RenV f V) : ∀ l m : List Tm, (∀ k ∈ l, InV V k) → (∀ k ∈ m, InV V k) → Tm.rens f l = Tm.rens f m → l = m
 | [], [], _, _, _ => rfl
 | [], _ :: _, _, _, e => by rw [Tm.rens, Tm.rens] at e; cases e
 | _ :: _, [], _, _, e => by rw [Tm.rens, Tm.rens] at e; cases e
 | t :: l, u :: m, h1, h2, e => by
  rw [Tm.rens, Tm.rens] at e;injection e with e1 e2;rw [qly hv t u (h1 t (List.mem_cons_self ..)) (h2 u (List.mem_cons_self ..)) e1, qmy hv l m (fun k hk => h1 k (List.mem_cons_of_mem _ hk)) (fun k hk => h2 k (List.mem_cons_of_mem _ hk)) e2]
end
mutual
theorem ql1 (g : ByteArray → Int → ByteArray) {x t x' t' : Tm} (H : ∀ y, V y → (if x = y then t else y).ren g = if x' = y.ren f then t' else y.ren f) :
  ∀ p : Tm, InV V p → (p.put [(x, t)]).ren g = (p.ren f).put [(x', t')]
 | .mk k n s l, hV => by
  by_cases hk : k = 1
  ·rw [put_var (x := .mk k n s l) hk, put_var (x := (Tm.mk k n s l).ren f) (by rw [qbq]; exact hk)];simp only [getS];exact H _ (hV _ (mem_self _) hk)
  ·rw [qjo, if_neg hk, Tm.ren, Tm.ren, if_neg hk, if_neg hk, qjo, if_neg hk, qm1 g H l fun k hk => hV.kid hk]
theorem qm1 (g : ByteArray → Int → ByteArray) {x t x' t' : Tm} (H : ∀ y, V y → (if x = y then t else y).ren g = if x' = y.ren f then t' else y.ren f) :
  ∀ l : List Tm, (∀ k ∈ l, InV V k) → Tm.rens g (Tm.puts [(x, t)] l) = Tm.puts [(x', t')] (Tm.rens f l)
 | [], _ => rfl
 | p :: r, h => by rw [Tm.puts, Tm.rens, Tm.rens, Tm.puts, ql1 g H p (h p (List.mem_cons_self ..)), qm1 g H r fun k hk => h k (List.mem_cons_of_mem _ hk)]
end
theorem occT_ren (hv : RenV f V) {x t : Tm} (hx : V x) (hV : InV V t) : occT (x.ren f) (t.ren f) = occT x t := by
 unfold occT;rw [Bool.eq_iff_iff, decide_eq_true_iff, decide_eq_true_iff, all_ren, List.mem_map];constructor
 ·rintro ⟨y, hy, e⟩;have hk := congrArg Tm.kind e;rw [qbq, qbq, (hv.var x hx).1] at hk;rw [← hv.inj y x (hV y hy hk) hx e]; exact hy
 ·exact fun h => ⟨x, h, rfl⟩
theorem qg1 (x t : Tm) : (oneU x t).1 = x ∧ (oneU x t).2.1 = t := by
 unfold oneU; split
 ·exact ⟨rfl, rfl⟩
 ·split <;> exact ⟨rfl, rfl⟩
theorem oneU_ren (hv : RenV f V) {x t : Tm} (hx : x.valid = 0) (ht : t.valid = 0) (hk : x.kind = 1) (hVx : InV V x) (hVt : InV V t) : (oneU (x.ren f) (t.ren f)).2.2 = (oneU x t).2.2 := by
 have h1 : fits (x.ren f) (t.ren f) = fits x t := by
  unfold fits;rw [(valid_ren hv (check_valid hx) hVx).2 hx, (valid_ren hv (check_valid ht) hVt).2 ht, hx, ht, qbq, qbq, qen, qen]
 unfold oneU;rw [h1, occT_ren hv (hVx _ (mem_self _) hk) hVt]
 split
 ·rfl
 ·split <;> rfl
theorem qln (f : ByteArray → Int → ByteArray) (a b : Tm) : qbc (a.ren f) (b.ren f) = qbc a b := by
 rw [Bool.eq_iff_iff, qbb, qbb, qbq, qbq, qmz, qmz, qgz, qgz, qe6, qe6];constructor
 ·rintro ⟨h1, h2, h3, h4⟩;rw [if_neg (by omega), if_neg (by omega)] at h3;exact ⟨h1, h2, h3, h4⟩
 ·rintro ⟨h1, h2, h3, h4⟩;refine ⟨h1, h2, ?_, h4⟩;rw [if_neg (by omega), if_neg (by omega)]; exact h3
theorem qou (a b : Tm) : qbc a b = qbc b a := by
 rw [Bool.eq_iff_iff, qbb, qbb];exact ⟨fun ⟨a, b, c, d⟩ => ⟨b, a, c.symm, d.symm⟩, fun ⟨a, b, c, d⟩ => ⟨b, a, c.symm, d.symm⟩⟩
def swP (sw : Bool) (p : Bd) : Bd := if sw = true then (p.2, p.1) else p
def renP (f : ByteArray → Int → ByteArray) (p : Bd) : Bd := (p.1.ren f, p.2.ren f)
def ChoR (f : ByteArray → Int → ByteArray) (c c' : Tm × Tm × Int) : Prop :=
 c'.2.2 = c.2.2 ∧ (c.2.2 = 0 → (c'.1 = c.1.ren f ∧ c'.2.1 = c.2.1.ren f) ∨ (c'.1 = c.2.1.ren f ∧ c'.2.1 = c.1.ren f ∧ c.1.kind = 1 ∧ c.2.1.kind = 1 ∧ c.1.sort = c.2.1.sort))
theorem qon (hv : RenV f V) {a b : Tm} (ha : a.valid = 0) (hb : b.valid = 0) (hA : InV V a) (hB : InV V b) (sw : Bool) :
  ChoR f (qan a b) (qan (swP sw (renP f (a, b))).1 (swP sw (renP f (a, b))).2) := by
 have one : ∀ x t : Tm, x.valid = 0 → t.valid = 0 → x.kind = 1 → InV V x → InV V t → ChoR f (oneU x t) (oneU (x.ren f) (t.ren f)) := fun x t h1 h2 h3 h4 h5 =>
  ⟨oneU_ren hv h1 h2 h3 h4 h5, fun _ => .inl ⟨by rw [(qg1 _ _).1, (qg1 _ _).1], by rw [(qg1 _ _).2, (qg1 _ _).2]⟩⟩
 cases sw with
 | false =>
  show ChoR f (qan a b) (qan (a.ren f) (b.ren f));unfold qan;rw [qbq, qbq, qen, qen];by_cases ka : a.kind = 1
  ·by_cases kb : b.kind = 1
   ·rw [if_pos ka, if_pos kb, if_pos ka, if_pos kb];by_cases hs : a.sort = b.sort
    ·rw [if_pos hs, if_pos hs]
     split <;> split
     ·exact ⟨rfl, fun _ => .inl ⟨rfl, rfl⟩⟩
     ·exact ⟨rfl, fun _ => .inr ⟨rfl, rfl, kb, ka, hs.symm⟩⟩
     ·exact ⟨rfl, fun _ => .inr ⟨rfl, rfl, ka, kb, hs⟩⟩
     ·exact ⟨rfl, fun _ => .inl ⟨rfl, rfl⟩⟩
    ·rw [if_neg hs, if_neg hs];by_cases h0 : b.sort = 0
     ·rw [if_pos h0, if_pos h0]; exact ⟨rfl, fun _ => .inl ⟨rfl, rfl⟩⟩
     ·rw [if_neg h0, if_neg h0];by_cases h1 : a.sort = 0
      ·rw [if_pos h1, if_pos h1]; exact ⟨rfl, fun _ => .inl ⟨rfl, rfl⟩⟩
      ·rw [if_neg h1, if_neg h1]; exact ⟨rfl, fun h => absurd (show (11 : Int) = 0 from h) (by decide)⟩
   ·rw [if_pos ka, if_neg kb, if_pos ka, if_neg kb]; exact one a b ha hb ka hA hB
  ·rw [if_neg ka, if_neg ka];by_cases kb : b.kind = 1
   ·rw [if_pos kb, if_pos kb]; exact one b a hb ha kb hB hA
   ·rw [if_neg kb, if_neg kb]; exact ⟨rfl, fun h => absurd (show (11 : Int) = 0 from h) (by decide)⟩
 | true =>
  show ChoR f (qan a b) (qan (b.ren f) (a.ren f));unfold qan;rw [qbq, qbq, qen, qen];by_cases ka : a.kind = 1
  ·by_cases kb : b.kind = 1
   ·rw [if_pos ka, if_pos kb, if_pos ka, if_pos kb];by_cases hs : a.sort = b.sort
    ·rw [if_pos hs, if_pos hs.symm]
     split <;> split
     ·exact ⟨rfl, fun _ => .inr ⟨rfl, rfl, kb, ka, hs.symm⟩⟩
     ·exact ⟨rfl, fun _ => .inl ⟨rfl, rfl⟩⟩
     ·exact ⟨rfl, fun _ => .inl ⟨rfl, rfl⟩⟩
     ·exact ⟨rfl, fun _ => .inr ⟨rfl, rfl, ka, kb, hs⟩⟩
    ·have hs' : ¬ b.sort = a.sort := fun e => hs e.symm;rw [if_neg hs, if_neg hs'];by_cases h0 : b.sort = 0
     ·have h1 : a.sort ≠ 0 := by omega
      rw [if_pos h0, if_neg h1, if_pos h0]; exact ⟨rfl, fun _ => .inl ⟨rfl, rfl⟩⟩
     ·rw [if_neg h0];by_cases h1 : a.sort = 0
      ·rw [if_pos h1, if_pos h1]; exact ⟨rfl, fun _ => .inl ⟨rfl, rfl⟩⟩
      ·rw [if_neg h1, if_neg h1, if_neg h0]; exact ⟨rfl, fun h => absurd (show (11 : Int) = 0 from h) (by decide)⟩
   ·rw [if_pos ka, if_neg kb, if_neg kb, if_pos ka]; exact one a b ha hb ka hA hB
  ·rw [if_neg ka];by_cases kb : b.kind = 1
   ·rw [if_pos kb, if_pos kb, if_neg ka]; exact one b a hb ha kb hB hA
   ·rw [if_neg kb, if_neg kb, if_neg ka]; exact ⟨rfl, fun h => absurd (show (11 : Int) = 0 from h) (by decide)⟩
theorem var_ext {y z : Tm} (hy : y.kind = 1 ∧ y.kids = []) (hz : z.kind = 1 ∧ z.kids = []) (hn : y.name = z.name) (hs : y.sort = z.sort) : y = z := by
 obtain ⟨y1, y2, y3, y4⟩ := y;obtain ⟨z1, z2, z3, z4⟩ := z;simp only [Tm.kind, Tm.kids, Tm.name, Tm.sort] at *;rw [hy.1, hy.2, hz.1, hz.2, hn, hs]
theorem bind_ren (hv : RenV f V) {x t x' t' : Tm} (hx : V x) (ht : InV V t) (hxt : x ∉ t.all)
  (h : (x' = x.ren f ∧ t' = t.ren f) ∨ (x' = t.ren f ∧ t' = x.ren f ∧ x.kind = 1 ∧ t.kind = 1 ∧ x.sort = t.sort)) :
  ∃ g, RenV g (fun y => V y ∧ y ≠ x) ∧ t' = t.ren g ∧ ∀ p, InV V p → (p.put [(x, t)]).ren g = (p.ren f).put [(x', t')] := by
 rcases h with ⟨rfl, rfl⟩ | ⟨rfl, rfl, hk, htk, hso⟩
 ·refine ⟨f, ⟨fun y h => hv.var y h.1, fun y z h h' => hv.inj y z h.1 h'.1, fun y h => hv.nm y h.1⟩, rfl, fun p hp => ql1 f (fun y hy => ?_) p hp⟩;by_cases e : x = y
  ·rw [if_pos e, if_pos (by rw [e])]
  ·rw [if_neg e, if_neg (fun e' => e (hv.inj x y hx hy e'))]
 ·have hVt : V t := ht t (mem_self _) htk;have hne : x ≠ t := fun e => hxt (e ▸ mem_self _);obtain ⟨g, hg⟩ : ∃ g : ByteArray → Int → ByteArray, g = fun n s => if n = t.name ∧ s = t.sort then f x.name x.sort else f n s := ⟨_, rfl⟩
  have hy : ∀ y, V y → y.ren g = if y = t then x.ren f else y.ren f := fun y hy => by
   have gk := hv.var y hy;have e1 : ∀ (F : ByteArray → Int → ByteArray) (z : Tm), V z → z.ren F = .mk 1 (F z.name z.sort) z.sort [] := fun F z hz => by
    obtain ⟨z1, z2, z3, z4⟩ := z;have := hv.var _ hz;simp only [Tm.kind, Tm.kids] at this;rw [this.1, this.2, Tm.ren, if_pos rfl]; rfl
   rw [e1 _ y hy, e1 _ x hx, hg];by_cases e : y = t
   ·rw [if_pos e, e]; simp only [and_self, if_true]; rw [hso]
   ·rw [if_neg e, e1 _ y hy];dsimp only;rw [if_neg (fun h => e (var_ext gk (hv.var t hVt) h.1 h.2))]
  refine ⟨g, ⟨fun y h => hv.var y h.1, fun y z h h' e => ?_, fun y h => ?_⟩, by rw [hy t hVt, if_pos rfl], fun p hp => ql1 g (fun y hVy => ?_) p hp⟩
  ·rw [hy y h.1, hy z h'.1] at e;by_cases h1 : y = t
   ·by_cases h2 : z = t
    ·rw [h1, h2]
    ·rw [if_pos h1, if_neg h2] at e;exact absurd (hv.inj x z hx h'.1 e).symm h'.2
   ·by_cases h2 : z = t
    ·rw [if_neg h1, if_pos h2] at e;exact absurd (hv.inj y x h.1 hx e) h.2
    ·rw [if_neg h1, if_neg h2] at e;exact hv.inj y z h.1 h'.1 e
  ·rw [hg]; dsimp only
   split
   ·exact hv.nm x hx
   ·exact hv.nm y h.1
  ·by_cases e : x = y
   ·subst e;rw [if_pos rfl, if_neg (fun e' => hne (hv.inj t x hVt hx e').symm), hy t hVt, if_pos rfl]
   ·rw [if_neg e, hy y hVy];by_cases e2 : y = t
    ·rw [if_pos e2, if_pos (by rw [e2])]
    ·rw [if_neg e2, if_neg (fun e' => e2 (hv.inj t y hVt hVy e').symm)]
theorem ql6 {x t : Tm} (_hx : x.kind = 1) (hxt : x ∉ t.all) (ht : InV V t) {p : Tm} (hc : p.check = 0) (hp : InV V p) : InV (fun y => V y ∧ y ≠ x) (p.put [(x, t)]) := fun y hy hk => by
 rcases qhp hk p hc hy with ⟨h1, h2⟩ | h1
 ·exact ⟨hp y h1 hk, h2⟩
 ·exact ⟨ht y h1 hk, fun e => hxt (e ▸ h1)⟩
end
structure SimU (V : Tm → Prop) (f : ByteArray → Int → ByteArray) (sw : Bool) (ps bs ps' bs' : List Bd) : Prop where
 ren : RenV f V
 pairs : ps' = ps.map (fun p => swP sw (renP f p))
 binds : bs'.map (·.2) = bs.map (fun b => b.2.ren f)
 vp : ∀ p ∈ ps, InV V p.1 ∧ InV V p.2
 vb : ∀ b ∈ bs, InV V b.2
theorem zip_sw (sw : Bool) : ∀ l m : List Tm, (if sw = true then m else l).zip (if sw = true then l else m) = (l.zip m).map (swP sw) := by
 intro l
 induction l with
 | nil => intro m; cases sw <;> cases m <;> rfl
 | cons a l ih =>
  intro m
  cases m with
  | nil => cases sw <;> rfl
  | cons b m =>
   have := ih m;cases sw
   ·have this : l.zip m = (l.zip m).map (swP false) := this;show (a, b) :: l.zip m = (a, b) :: (l.zip m).map (swP false);rw [← this]
   ·have this : m.zip l = (l.zip m).map (swP true) := this;show (b, a) :: m.zip l = (b, a) :: (l.zip m).map (swP true);rw [this]
theorem sim_step {V : Tm → Prop} {f : ByteArray → Int → ByteArray} {sw : Bool} {a b a' b' : Tm} {ps bs ps' bs' : List Bd} (hs : SimU V f sw ((a, b) :: ps) bs ((a', b') :: ps') bs') (ha : a.valid = 0) (hb : b.valid = 0)
  (hps : ∀ p ∈ ps, p.1.valid = 0 ∧ p.2.valid = 0) (hbs : ∀ p ∈ bs, p.1.valid = 0 ∧ p.1.kind = 1 ∧ p.2.valid = 0) :
  (qa8 a' b' ps' bs').1 = (qa8 a b ps bs).1 ∧ ((qa8 a b ps bs).1 = 0 → ∃ V' f', SimU V' f' sw (qa8 a b ps bs).2.1 (qa8 a b ps bs).2.2 (qa8 a' b' ps' bs').2.1 (qa8 a' b' ps' bs').2.2) := by
 have hv := hs.ren;have e0 := hs.pairs;rw [List.map_cons] at e0;injection e0 with e1 e2;obtain ⟨vA, vB⟩ := hs.vp (a, b) (List.mem_cons_self ..);have vP : ∀ p ∈ ps, InV V p.1 ∧ InV V p.2 := fun p hp => hs.vp p (List.mem_cons_of_mem _ hp);have ea : a' = (swP sw (renP f (a, b))).1 := congrArg Prod.fst e1;have eb : b' = (swP sw (renP f (a, b))).2 := congrArg Prod.snd e1;have hC0 := qon hv ha hb vA vB sw;rw [← ea, ← eb] at hC0;have heq : a' = b' ↔ a = b := by
  rw [ea, eb];cases sw
  ·exact ⟨fun h => qly hv a b vA vB h, fun h => by rw [h]; rfl⟩
  ·exact ⟨fun h => (qly hv b a vB vA h).symm, fun h => by rw [h]; rfl⟩
 have hal : qbc a' b' = qbc a b := by
  rw [ea, eb];cases sw
  ·exact qln f a b
  ·exact (qln f b a).trans (qou b a)
 unfold qa8;by_cases he : a = b
 ·rw [if_pos he, if_pos (heq.2 he)];exact ⟨rfl, fun _ => ⟨V, f, hv, e2, hs.binds, vP, hs.vb⟩⟩
 rw [if_neg he, if_neg (fun h => he (heq.1 h)), hal];by_cases ha2 : qbc a b = true
 ·rw [if_pos ha2, if_pos ha2];refine ⟨rfl, fun _ => ⟨V, f, hv, ?_, hs.binds, fun p hp => ?_, hs.vb⟩⟩
  ·show a'.kids.zip b'.kids ++ ps' = _;have hz : a'.kids.zip b'.kids = (a.kids.zip b.kids).map (fun p => swP sw (renP f p)) := by
    have h1 : a'.kids = if sw = true then Tm.rens f b.kids else Tm.rens f a.kids := by rw [ea]; cases sw <;> exact qgz f _
    have h2 : b'.kids = if sw = true then Tm.rens f a.kids else Tm.rens f b.kids := by rw [eb]; cases sw <;> exact qgz f _
    rw [h1, h2, zip_sw, qjl, qjl, List.zip_map, List.map_map];rfl
   rw [hz, e2, List.map_append]
  ·rcases List.mem_append.1 hp with hp | hp
   ·obtain ⟨m1, m2⟩ := List.of_mem_zip hp;exact ⟨vA.kid m1, vB.kid m2⟩
   ·exact vP p hp
 rw [if_neg ha2, if_neg ha2];obtain ⟨c1, c2⟩ := hC0;by_cases hc : (qan a b).2.2 ≠ 0
 ·rw [if_pos hc, if_pos (by rw [c1]; exact hc)];exact ⟨c1, fun h => absurd h hc⟩
 rw [if_neg hc, if_neg (by rw [c1]; exact hc)];have hc0 : (qan a b).2.2 = 0 := by simpa using hc
 have hC := qh6 ha hb he hc0;have c2 := c2 hc0;obtain ⟨x, hx⟩ : ∃ x, x = (qan a b).1 := ⟨_, rfl⟩;obtain ⟨t, ht⟩ : ∃ t, t = (qan a b).2.1 := ⟨_, rfl⟩;obtain ⟨x', hx'⟩ : ∃ x, x = (qan a' b').1 := ⟨_, rfl⟩;obtain ⟨t', ht'⟩ : ∃ t, t = (qan a' b').2.1 := ⟨_, rfl⟩;rw [← hx, ← ht, ← hx', ← ht'] at c2;rw [← hx, ← ht] at hC;rw [← hx, ← ht, ← hx', ← ht'];have vX : V x := by
  rcases hC.pair with ⟨e, -⟩ | ⟨e, -⟩
  ·exact vA x (by rw [e]; exact mem_self _) hC.var
  ·exact vB x (by rw [e]; exact mem_self _) hC.var
 have vT : InV V t := by
  rcases hC.pair with ⟨-, e⟩ | ⟨-, e⟩
  ·rw [e]; exact vB
  ·rw [e]; exact vA
 obtain ⟨g, hg, htg, hput⟩ := bind_ren hv vX vT hC.out c2;have hsk : ∀ c ∈ [(x, t)], c.2.check = 0 := fun c hc => by rw [List.mem_singleton] at hc; subst hc; exact check_valid hC.vt
 have w1 : ps'.map (putP x' t') = (ps.map (putP x t)).map (fun p => swP sw (renP g p)) := by
  rw [e2, List.map_map, List.map_map];refine List.map_congr_left fun p hp => ?_;have h1 := hput p.1 (vP p hp).1;have h2 := hput p.2 (vP p hp).2;show putP x' t' (swP sw (renP f p)) = swP sw (renP g (putP x t p));cases sw
  ·exact Prod.ext h1.symm h2.symm
  ·exact Prod.ext h2.symm h1.symm
 have w2 : (bs'.map (putB x' t')).map (·.2) = (bs.map (putB x t)).map (fun b => b.2.ren g) := by
  have h0 : (bs'.map (putB x' t')).map (·.2) = (bs'.map (·.2)).map (Tm.put [(x', t')]) := by rw [List.map_map, List.map_map]; rfl
  rw [h0, hs.binds, List.map_map, List.map_map];exact List.map_congr_left fun b hb => (hput b.2 (hs.vb b hb)).symm
 have v1 : ∀ p ∈ ps.map (putP x t), InV (fun y => V y ∧ y ≠ x) p.1 ∧ InV (fun y => V y ∧ y ≠ x) p.2 := fun p hp => by
  obtain ⟨q, hq, rfl⟩ := List.mem_map.1 hp;exact ⟨ql6 hC.var hC.out vT (check_valid (hps q hq).1) (vP q hq).1, ql6 hC.var hC.out vT (check_valid (hps q hq).2) (vP q hq).2⟩
 have v2 : ∀ b ∈ bs.map (putB x t), InV (fun y => V y ∧ y ≠ x) b.2 := fun b hb => by
  obtain ⟨q, hq, rfl⟩ := List.mem_map.1 hb;exact ql6 hC.var hC.out vT (check_valid (hbs q hq).2.2) (hs.vb q hq)
 have k1 : ∀ p ∈ ps.map (putP x t), p.1.check = 0 ∧ p.2.check = 0 := fun p hp => by
  obtain ⟨q, hq, rfl⟩ := List.mem_map.1 hp;exact ⟨qcg hsk _ (check_valid (hps q hq).1), qcg hsk _ (check_valid (hps q hq).2)⟩
 have k2 : ∀ b ∈ bs.map (putB x t), b.2.check = 0 := fun b hb => by
  obtain ⟨q, hq, rfl⟩ := List.mem_map.1 hb;exact qcg hsk _ (check_valid (hbs q hq).2.2)
 have hR : qcy x' t' ps' bs' = qcy x t ps bs := by
  rw [Bool.eq_iff_iff, qfj, qfj, w1];have q1 : (∀ p ∈ (ps.map (putP x t)).map (fun p => swP sw (renP g p)), p.1.valid = 0 ∧ p.2.valid = 0) ↔ ∀ p ∈ ps.map (putP x t), p.1.valid = 0 ∧ p.2.valid = 0 := by
   constructor
   ·intro h p hp;have h1 := h _ (List.mem_map_of_mem hp);have r1 := valid_ren hg (k1 p hp).1 (v1 p hp).1;have r2 := valid_ren hg (k1 p hp).2 (v1 p hp).2;cases sw
    ·exact ⟨r1.1 h1.1, r2.1 h1.2⟩
    ·exact ⟨r1.1 h1.2, r2.1 h1.1⟩
   ·intro h p hp;obtain ⟨q, hq, rfl⟩ := List.mem_map.1 hp;have h1 := h q hq;have r1 := valid_ren hg (k1 q hq).1 (v1 q hq).1;have r2 := valid_ren hg (k1 q hq).2 (v1 q hq).2;cases sw
    ·exact ⟨r1.2 h1.1, r2.2 h1.2⟩
    ·exact ⟨r2.2 h1.2, r1.2 h1.1⟩
  have q2 : (∀ b ∈ bs'.map (putB x' t'), b.2.valid = 0) ↔ ∀ b ∈ bs.map (putB x t), b.2.valid = 0 := by
   have s1 : (∀ b ∈ bs'.map (putB x' t'), b.2.valid = 0) ↔ ∀ u ∈ (bs'.map (putB x' t')).map (·.2), u.valid = 0 := by simp only [List.mem_map, forall_exists_index, and_imp, forall_apply_eq_imp_iff₂]
   rw [s1, w2];constructor
   ·intro h b hb;exact (valid_ren hg (k2 b hb) (v2 b hb)).1 (h _ (List.mem_map_of_mem hb))
   ·intro h u hu;obtain ⟨b, hb, rfl⟩ := List.mem_map.1 hu;exact (valid_ren hg (k2 b hb) (v2 b hb)).2 (h b hb)
  rw [q1, q2]
 rw [hR];refine ⟨rfl, fun _ => ⟨_, g, hg, w1, ?_, v1, fun b hb => ?_⟩⟩
 ·rw [List.map_append, List.map_append, w2, List.map_singleton, List.map_singleton, htg]
 ·rcases List.mem_append.1 hb with hb | hb
  ·exact v2 b hb
  ·rw [List.mem_singleton] at hb;subst hb;exact fun y hy hk => ⟨vT y hy hk, fun e => hC.out (e ▸ hy)⟩
theorem sim_run : ∀ {n m : Nat} {V : Tm → Prop} {f : ByteArray → Int → ByteArray} {sw : Bool} {ps bs ps' bs' : List Bd} {r r' : Int × List Bd}, runU n ps bs = some r → runU m ps' bs' = some r' → SimU V f sw ps bs ps' bs' → r'.1 = r.1
 | 0, _, _, _, _, _, _, _, _, _, _, h, _, _ => by rw [runU] at h; cases h
 | _ + 1, 0, _, _, _, _, _, _, _, _, _, _, h, _ => by rw [runU] at h; cases h
 | n + 1, m + 1, V, f, sw, ps, bs, ps', bs', r, r', h, h', hs => by
  cases ps with
  | nil =>
   have e := hs.pairs;rw [List.map_nil] at e;subst e;rw [runU] at h h'
   split at h
   ·split at h'
    ·rw [← Option.some.inj h, ← Option.some.inj h']
    ·cases h'
   ·cases h
  | cons p ps =>
   cases ps' with
   | nil => have e := hs.pairs; rw [List.map_cons] at e; cases e
   | cons p' ps' =>
    rw [runU] at h h'
    split at h
    ·rename_i hg
     split at h'
     ·obtain ⟨g1, g2, g3, g4⟩ := qc1.1 hg;have hpv := g3 p (List.mem_cons_self ..);obtain ⟨a1, a2⟩ := sim_step (a := p.1) (b := p.2) (a' := p'.1) (b' := p'.2) hs hpv.1 hpv.2 (fun q hq => g3 q (List.mem_cons_of_mem _ hq)) g4;rw [a1] at h';by_cases he : (qa8 p.1 p.2 ps bs).1 ≠ 0
      ·rw [if_pos he] at h h';rw [← Option.some.inj h, ← Option.some.inj h']
      ·rw [if_neg he] at h h';obtain ⟨V', f', hs'⟩ := a2 (by simpa using he);exact sim_run h h' hs'
     ·cases h'
    ·cases h
theorem sim_start {V : Tm → Prop} {f : ByteArray → Int → ByteArray} (hv : RenV f V) (sw : Bool) {t u : Tm} (ht : InV V t) (hu : InV V u) : SimU V f sw [(t, u)] [] [swP sw (renP f (t, u))] [] :=
 ⟨hv, rfl, rfl, fun p hp => by rw [List.mem_singleton] at hp; subst hp; exact ⟨ht, hu⟩, by simp⟩
end Go.Proofs.YtpjmdilpldaapaaGreatDoor
