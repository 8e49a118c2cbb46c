/- Umat1, Udisj0 (joined by shake.py). -/
import Derived.Test.YtpjmdilpldaapaaGreatDoorS12
import Derived.Test.YtpjmdilpldaapaaGreatDoorS21
import Derived.Test.YtpjmdilpldaapaaGreatDoorS25
namespace Go.Proofs.YtpjmdilpldaapaaGreatDoor
theorem qhu {p x : Tm} : x ∈ varsOf p ↔ x ∈ p.all ∧ x.kind = 1 := by
 unfold varsOf;rw [Tm.mem_set, List.mem_filter];simp
structure RenTab (s : List Bd) (L : List Tm) : Prop where
 leaf : ∀ x ∈ L, x.kind = 1 ∧ x.kids = []
 new : ∀ x ∈ L, (getS s x).kind = 1 ∧ (getS s x).kids = [] ∧ (getS s x).sort = x.sort ∧ qco (getS s x).name.data.toList = true
 inj : ∀ x ∈ L, ∀ y ∈ L, getS s x = getS s y → x = y
def fT (s : List Bd) (n : ByteArray) (o : Int) : ByteArray := (getS s (.mk 1 n o [])).name
theorem qkh {x : Tm} (h : x.kind = 1 ∧ x.kids = []) : x = .mk 1 x.name x.sort [] := by
 obtain ⟨k, n, s, l⟩ := x;obtain ⟨h1, h2⟩ := h;simp only [Tm.kind, Tm.kids] at h1 h2;rw [h1, h2]; rfl
theorem RenTab.ren {s : List Bd} {L : List Tm} (h : RenTab s L) {x : Tm} (hx : x ∈ L) : x.ren (fT s) = getS s x := by
 have e := qkh (h.leaf x hx);obtain ⟨h1, h2, h3, -⟩ := h.new x hx;have e2 := qkh ⟨h1, h2⟩;rw [e2, h3];rw [e];rw [Tm.ren, if_pos rfl, Tm.rens];show Tm.mk 1 (getS s (.mk 1 x.name x.sort [])).name x.sort [] = _;rw [← e]
theorem RenTab.renV {s : List Bd} {L : List Tm} (h : RenTab s L) : RenV (fT s) (fun x => x ∈ L) := by
 refine ⟨h.leaf, fun y z hy hz e => ?_, fun y hy => ?_⟩
 ·rw [h.ren hy, h.ren hz] at e;exact h.inj y hy z hz e
 ·have e := qkh (h.leaf y hy);obtain ⟨-, -, -, h4⟩ := h.new y hy;show qco (getS s (.mk 1 y.name y.sort [])).name.data.toList = true;rw [← e]; exact h4
mutual
theorem qfw {s : List Bd} {f : ByteArray → Int → ByteArray} : ∀ t : Tm, t.check = 0 → (∀ x ∈ t.all, x.kind = 1 → getS s x = x.ren f) → t.put s = t.ren f
 | .mk k n so l, hc, h => by
  by_cases hk : k = 1
  ·rw [Tm.put_var s (.mk k n so l) hk];exact h _ (by rw [Tm.all]; exact List.mem_cons_self ..) hk
  ·rw [Tm.put_app s k n so l hk, Tm.ren, if_neg hk];rcases qc4 hc with ⟨-, rfl⟩ | ⟨-, -, hcl⟩
   ·rw [Tm.puts, Tm.rens]
   ·rw [qg0 l hcl (fun x hx => h x (by rw [Tm.all]; exact List.mem_cons_of_mem _ hx))]
theorem qg0 {s : List Bd} {f : ByteArray → Int → ByteArray} : ∀ l : List Tm, Tm.checks l = 0 → (∀ x ∈ Tm.alls l, x.kind = 1 → getS s x = x.ren f) → Tm.puts s l = Tm.rens f l
 | [], _, _ => by rw [Tm.puts, Tm.rens]
 | t :: r, hc, h => by
  obtain ⟨h1, h2⟩ := qc3 hc;rw [Tm.puts, Tm.rens, qfw t h1 (fun x hx => h x (by rw [Tm.alls]; exact List.mem_append_left _ hx)), qg0 r h2 (fun x hx => h x (by rw [Tm.alls]; exact List.mem_append_right _ hx))]
end
mutual
theorem qg3 {s s' : List Bd} {f : ByteArray → Int → ByteArray} : ∀ t : Tm, t.check = 0 → (∀ x ∈ t.all, x.kind = 1 → (getS s x).ren f = getS s' x) → (t.put s).ren f = t.put s'
 | .mk k n so l, hc, h => by
  by_cases hk : k = 1
  ·rw [Tm.put_var s (.mk k n so l) hk, Tm.put_var s' (.mk k n so l) hk];exact h _ (by rw [Tm.all]; exact List.mem_cons_self ..) hk
  ·rw [Tm.put_app s k n so l hk, Tm.put_app s' k n so l hk, Tm.ren, if_neg hk];rcases qc4 hc with ⟨-, rfl⟩ | ⟨-, -, hcl⟩
   ·rw [Tm.puts, Tm.puts, Tm.rens]
   ·rw [qf4 l hcl (fun x hx => h x (by rw [Tm.all]; exact List.mem_cons_of_mem _ hx))]
theorem qf4 {s s' : List Bd} {f : ByteArray → Int → ByteArray} : ∀ l : List Tm, Tm.checks l = 0 → (∀ x ∈ Tm.alls l, x.kind = 1 → (getS s x).ren f = getS s' x) → Tm.rens f (Tm.puts s l) = Tm.puts s' l
 | [], _, _ => by rw [Tm.puts, Tm.puts, Tm.rens]
 | t :: r, hc, h => by
  obtain ⟨h1, h2⟩ := qc3 hc;rw [Tm.puts, Tm.puts, Tm.rens, qg3 t h1 (fun x hx => h x (by rw [Tm.alls]; exact List.mem_append_left _ hx)), qf4 r h2 (fun x hx => h x (by rw [Tm.alls]; exact List.mem_append_right _ hx))]
end
theorem RenTab.put {s : List Bd} {L : List Tm} (h : RenTab s L) {t : Tm} (hc : t.check = 0) (hV : InV (fun x => x ∈ L) t) : t.put s = t.ren (fT s) :=
 qfw t hc fun x hx hk => (h.ren (hV x hx hk)).symm
theorem asc_nodup {L : List Tm} (h : Asc L) : L.Nodup := h.imp fun {a b} hab e => by
 rw [e, Tm.cmp_self] at hab; omega
theorem qfj {nm : ByteArray} : ∀ {L : List Tm} {i k : Nat} (_ : L.Nodup) (hk : k < L.length), getS (apUL nm L i) L[k] = newU nm (i + k) L[k].sort
 | x :: L, i, 0, _, _ => by rw [apUL, getS, List.getElem_cons_zero, if_pos rfl]; rfl
 | x :: L, i, k + 1, h, hk => by
  obtain ⟨h1, h2⟩ := List.nodup_cons.1 h;have hk' : k < L.length := by simpa using hk
  rw [apUL, getS, List.getElem_cons_succ, if_neg (fun e => h1 (by
   have e2 : x = L[k] := e;rw [e2]; exact List.getElem_mem hk')), qfj h2 hk', show i + 1 + k = i + (k + 1) by omega]
theorem qg9 {nm : ByteArray} {y : Tm} : ∀ {L : List Tm} {i : Nat}, y ∈ L → hasS (apUL nm L i) y = true
 | x :: L, i, h => by
  rw [apUL, hasS];by_cases e : x = y
  ·rw [if_pos e]
  ·rw [if_neg e];rcases List.mem_cons.1 h with h | h
   ·exact absurd h.symm e
   ·exact qg9 h
theorem qhb {r : List Bd} {y : Tm} : ∀ {s : List Bd}, hasS s y = true → getS (s ++ r) y = getS s y
 | b :: s, h => by
  rw [List.cons_append, getS, getS];by_cases e : b.1 = y
  ·rw [if_pos e, if_pos e]
  ·rw [if_neg e, if_neg e];rw [hasS, if_neg e] at h;exact qhb h
theorem qjq {r : List Bd} {y : Tm} : ∀ {s : List Bd}, hasS s y = false → getS (s ++ r) y = getS r y
 | [], _ => rfl
 | b :: s, h => by
  rw [List.cons_append, getS];by_cases e : b.1 = y
  ·rw [hasS, if_pos e] at h; cases h
  ·rw [if_neg e];rw [hasS, if_neg e] at h;exact qjq h
theorem qjk {c : UInt8} {i : Nat} {s : Int} : (newU ⟨#[c]⟩ i s).name.data.toList = c :: Lib.decDigits i := by
 show ((⟨#[c]⟩ : ByteArray) ++ ⟨(Lib.decDigits i).toArray⟩).data.toList = _;simp [ByteArray.data_append]
theorem qgi {c d : UInt8} {i j : Nat} {s s' : Int} (h : newU ⟨#[c]⟩ i s = newU ⟨#[d]⟩ j s') : c = d ∧ i = j := by
 have h1 := congrArg (fun x : Tm => x.name.data.toList) h;simp only [qjk] at h1;injection h1 with h2 h3;exact ⟨h2, qh9 i j h3⟩
theorem qh2 {c : UInt8} (hc : qc0 c = true) (hp : qcc c = true) {i : Nat} (h : i < 18446744073709551616) {s : Int} : qco (newU ⟨#[c]⟩ i s).name.data.toList = true := by
 rw [qjk];unfold qco;have h1 := Lib.nDigits_le20 i h;have h2 := Lib.decDigits_length i;have h3 : (Lib.decDigits i).all qcc = true := List.all_eq_true.2 (qhe i);simp only [List.length_cons, List.all_cons, h3, hp, hc, Bool.and_self, Bool.and_true, decide_eq_true_eq];omega
theorem qj5 {N : List ByteArray} : ∀ (L : List Tm) (n : Nat), n ≤ qc6 N L n
 | [], _ => Nat.le_refl _
 | _ :: L, n => by
  rw [qc6];have h1 := (qbh N n).1;have h2 := qj5 (N := N) L (qa1 N n + 1);omega
theorem qdv {N : List ByteArray} : ∀ {L : List Tm} {n : Nat} {v : Tm}, v ∈ (qbt N L n).map Prod.snd → ∃ F, (n ≤ F ∧ F < qc6 N L n) ∧ v.kind = 1 ∧ v.kids = [] ∧ v.name = qaz F ∧ qaz F ∉ N
 | x :: L, n, v, h => by
  rw [qbt, List.map_cons] at h;rw [qc6];obtain ⟨h1, -, h3, -⟩ := qbh N n;rcases List.mem_cons.1 h with rfl | h
  ·exact ⟨qa1 N n, ⟨h1, by have := qj5 (N := N) L (qa1 N n + 1); omega⟩, rfl, rfl, rfl, h3⟩
  ·obtain ⟨F, g1, g2⟩ := qdv h;exact ⟨F, ⟨by omega, g1.2⟩, g2⟩
theorem qef {N : List ByteArray} : ∀ (L : List Tm) (n : Nat), ((qbt N L n).map Prod.snd).Nodup
 | [], _ => by rw [qbt]; exact List.nodup_nil
 | x :: L, n => by
  rw [qbt, List.map_cons, List.nodup_cons];refine ⟨fun h => ?_, qef L _⟩;obtain ⟨F, g1, -, -, g2, -⟩ := qdv h;have := qha (show qaz (qa1 N n) = qaz F from g2);omega
theorem qct {N : List ByteArray} : ∀ {L : List Tm} {n k : Nat} (_ : L.Nodup) (hk : k < L.length), ∃ v, ((qbt N L n).map Prod.snd)[k]? = some v ∧ getS (qbt N L n) L[k] = v ∧ v.sort = L[k].sort
 | x :: L, n, 0, _, _ => by
  refine ⟨.mk 1 (qaz (qa1 N n)) x.sort [], by rw [qbt, List.map_cons]; rfl, ?_, rfl⟩;rw [qbt, List.getElem_cons_zero, getS, if_pos rfl]
 | x :: L, n, k + 1, h, hk => by
  obtain ⟨h1, h2⟩ := List.nodup_cons.1 h;have hk' : k < L.length := by simpa using hk
  obtain ⟨v, g1, g2, g3⟩ := qct (N := N) (n := qa1 N n + 1) h2 hk';refine ⟨v, by rw [qbt, List.map_cons, List.getElem?_cons_succ]; exact g1, ?_, g3⟩;rw [qbt, List.getElem_cons_succ, getS, if_neg (fun e => h1 (by
   have e2 : x = L[k] := e;rw [e2]; exact List.getElem_mem hk'))]
  exact g2
theorem nodup_idx {l : List Tm} (h : l.Nodup) {i j : Nat} {v : Tm} (hi : l[i]? = some v) (hj : l[j]? = some v) : i = j := by
 obtain ⟨h1, e1⟩ := List.getElem?_eq_some_iff.1 hi;obtain ⟨h2, e2⟩ := List.getElem?_eq_some_iff.1 hj;rcases Nat.lt_trichotomy i j with k | k | k
 ·exact absurd (e1.trans e2.symm) (List.pairwise_iff_getElem.1 h i j h1 h2 k)
 ·exact k
 ·exact absurd (e2.trans e1.symm) (List.pairwise_iff_getElem.1 h j i h2 h1 k)
theorem qcp {t : Tm} : InV (fun x => x ∈ varsOf t) t := fun _ hy hk => qhu.2 ⟨hy, hk⟩
theorem qcx (t : Tm) : (varsOf t).Nodup := asc_nodup (Tm.set_asc _)
theorem qfs {t : Tm} (h : t.valid = 0) {x : Tm} (hx : x ∈ varsOf t) : x.kind = 1 ∧ x.kids = [] := ⟨(qhu.1 hx).2, (qdb h x hx).1⟩
def newV (u t : Tm) : List Tm := (qbk u t).map Prod.snd
theorem newV_len (u t : Tm) : (newV u t).length = (varsOf u).length := by
 unfold newV qbk; rw [List.length_map, qd3]
theorem newV_free {u t x : Tm} (h : x ∈ newV u t) : x ∉ varsOf t ∧ x ∉ varsOf u := by
 obtain ⟨F, -, -, -, h1, h2⟩ := qdv h;have key : ∀ y, y ∈ varsOf t ∨ y ∈ varsOf u → y.name ∈ qd4 u t := fun y hy => by
  unfold qd4;refine List.mem_map_of_mem ((Tm.mem_set _ _).2 ?_);unfold varsL;simp only [List.flatMap_cons, List.flatMap_nil, List.append_nil, List.mem_append];exact hy.symm
 exact ⟨fun hx => h2 (by rw [← h1]; exact key x (.inl hx)), fun hx => h2 (by rw [← h1]; exact key x (.inr hx))⟩
theorem qgt {t u : Tm} (hu : u.valid = 0) (ht : t.valid = 0) : RenTab (qbk u t) (varsOf u) := by
 have hnd := qcx u;have hl := qbv u;have su := qak hu;have st := qak ht;refine ⟨fun x hx => qfs hu hx, fun x hx => ?_, fun x hx y hy e => ?_⟩
 ·obtain ⟨i, hi, rfl⟩ := List.getElem_of_mem hx;obtain ⟨v, g0, g1, g2⟩ := qct (N := qd4 u t) (n := 0) hnd hi;have hm : v ∈ newV u t := List.mem_of_getElem? g0;have g1' : getS (qbk u t) (varsOf u)[i] = v := g1;rw [g1'];obtain ⟨F, q1, q2, q3, q4, q5⟩ := qdv hm;have hN : (qd4 u t).length ≤ 800 := by
   unfold qd4;rw [List.length_map];have k1 := Tm.set_length (varsL [u, t]);have k2 := qe5 [u, t];simp only [Tm.sizes] at k2;omega
  have hF : F < 18446744073709551616 := by
   have h1 := qhj (qd4 u t) (varsOf u) 0;have h2 : (varsOf u).length * ((qd4 u t).length + 1) ≤ 400 * 801 := Nat.mul_le_mul (by omega) (by omega);have := q1.2;omega
  exact ⟨q2, q3, g2, by rw [q4]; exact qly hF⟩
 ·obtain ⟨i, hi, rfl⟩ := List.getElem_of_mem hx;obtain ⟨j, hj, rfl⟩ := List.getElem_of_mem hy;obtain ⟨v, g0, g1, -⟩ := qct (N := qd4 u t) (n := 0) hnd hi;obtain ⟨v', g3, g4, -⟩ := qct (N := qd4 u t) (n := 0) hnd hj;have e' : v = v' := by rw [← g1, ← g4]; exact e
  subst e';have := nodup_idx (qef (varsOf u) 0) g0 g3;subst this; rfl
def tbB (a b : UInt8) (t u : Tm) : List Bd := apUL ⟨#[a]⟩ (varsOf t) 0 ++ apUL ⟨#[b]⟩ (newV u t) 0
theorem tb_left {a b : UInt8} {t u : Tm} {i : Nat} (hi : i < (varsOf t).length) : getS (tbB a b t u) (varsOf t)[i] = newU ⟨#[a]⟩ i (varsOf t)[i].sort := by
 unfold tbB;rw [qhb (qg9 (List.getElem_mem hi)), qfj (qcx t) hi, Nat.zero_add]
theorem qm1 (u t : Tm) : (newV u t).Nodup := qef _ _
theorem qld {a b : UInt8} {t u : Tm} {i : Nat} (hi : i < (newV u t).length) : getS (tbB a b t u) (newV u t)[i] = newU ⟨#[b]⟩ i (newV u t)[i].sort := by
 unfold tbB;rw [qjq (qiz (newV_free (List.getElem_mem hi)).1), qfj (qm1 u t) hi, Nat.zero_add]
theorem qgb {a b : UInt8} (hab : a ≠ b) (ha : qc0 a = true ∧ qcc a = true) (hb : qc0 b = true ∧ qcc b = true) {t u : Tm} (ht : t.valid = 0) (hu : u.valid = 0) : RenTab (tbB a b t u) (varsOf t ++ newV u t) := by
 have l1 := qbv t;have l2 := qbv u;have l3 := newV_len u t;have st := qak ht;have su := qak hu;have key : ∀ x ∈ varsOf t ++ newV u t, (∃ i, (varsOf t)[i]? = some x ∧ i < 1000 ∧ getS (tbB a b t u) x = newU ⟨#[a]⟩ i x.sort) ∨ (∃ i, (newV u t)[i]? = some x ∧ i < 1000 ∧ getS (tbB a b t u) x = newU ⟨#[b]⟩ i x.sort) := fun x hx => by
  rcases List.mem_append.1 hx with h | h
  ·obtain ⟨i, hi, rfl⟩ := List.getElem_of_mem h;exact .inl ⟨i, List.getElem?_eq_getElem hi, by omega, tb_left hi⟩
  ·obtain ⟨i, hi, rfl⟩ := List.getElem_of_mem h;exact .inr ⟨i, List.getElem?_eq_getElem hi, by omega, qld hi⟩
 refine ⟨fun x hx => ?_, fun x hx => ?_, fun x hx y hy e => ?_⟩
 ·rcases List.mem_append.1 hx with h | h
  ·exact qfs ht h
  ·obtain ⟨F, -, h1, h2, -⟩ := qdv h;exact ⟨h1, h2⟩
 ·rcases key x hx with ⟨i, -, hi, e⟩ | ⟨i, -, hi, e⟩
  ·rw [e]; exact ⟨rfl, rfl, rfl, qh2 ha.1 ha.2 (by omega)⟩
  ·rw [e]; exact ⟨rfl, rfl, rfl, qh2 hb.1 hb.2 (by omega)⟩
 ·rcases key x hx with ⟨i, h1, -, e1⟩ | ⟨i, h1, -, e1⟩ <;> rcases key y hy with ⟨j, h2, -, e2⟩ | ⟨j, h2, -, e2⟩
  ·obtain ⟨-, e3⟩ := qgi (e1.symm.trans (e.trans e2));subst e3;rw [h1] at h2; exact Option.some.inj h2
  ·exact absurd (qgi (e1.symm.trans (e.trans e2))).1 hab
  ·exact absurd (qgi (e1.symm.trans (e.trans e2))).1.symm hab
  ·obtain ⟨-, e3⟩ := qgi (e1.symm.trans (e.trans e2));subst e3;rw [h1] at h2; exact Option.some.inj h2
def apY (u t : Tm) : Tm := u.rap (qbk u t)
theorem apY_put {u t : Tm} (hu : u.valid = 0) : apY u t = u.put (qbk u t) :=
 rap_put (fun _ hb => (qfs hu (qf1 hb).1).1) u (check_valid hu)
theorem apY_ren {u t : Tm} (hu : u.valid = 0) (ht : t.valid = 0) : apY u t = u.ren (fT (qbk u t)) := by
 rw [apY_put hu];exact (qgt hu ht).put (check_valid hu) qcp
theorem qeg {u t : Tm} (hu : u.valid = 0) (ht : t.valid = 0) : (apY u t).valid = 0 := by
 rw [apY_ren hu ht];exact (valid_ren (qgt hu ht).renV (check_valid hu) qcp).2 hu
theorem apY_inV {u t : Tm} (hu : u.valid = 0) (ht : t.valid = 0) : InV (fun x => x ∈ varsOf t ++ newV u t) (apY u t) := by
 intro z hz hk;rw [apY_ren hu ht, all_ren] at hz;obtain ⟨x, hx, rfl⟩ := List.mem_map.1 hz;rw [qbo] at hk;have hxv : x ∈ varsOf u := qcp x hx hk;refine List.mem_append_right _ ?_;rw [(qgt hu ht).ren hxv];obtain ⟨i, hi, rfl⟩ := List.getElem_of_mem hxv;obtain ⟨v, g0, g1, -⟩ := qct (N := qd4 u t) (n := 0) (qcx u) hi;have g1' : getS (qbk u t) (varsOf u)[i] = v := g1;rw [g1'];exact List.mem_of_getElem? g0
section
variable {a b : UInt8} {t u : Tm}
theorem qma (ht : t.valid = 0) (hu : u.valid = 0) (hab : a ≠ b) (ha : qc0 a = true ∧ qcc a = true) (hb : qc0 b = true ∧ qcc b = true) : t.ren (fT (tbB a b t u)) = apT ⟨#[a]⟩ t := by
 refine (qfw t (check_valid ht) fun x hx hk => ?_).symm;have hxv : x ∈ varsOf t := qcp x hx hk;rw [(qgb hab ha hb ht hu).ren (List.mem_append_left _ hxv)];unfold tbB;rw [qhb (qg9 hxv)]
theorem qj8 (ht : t.valid = 0) (hu : u.valid = 0) (hab : a ≠ b) (ha : qc0 a = true ∧ qcc a = true) (hb : qc0 b = true ∧ qcc b = true) : (apY u t).ren (fT (tbB a b t u)) = apT ⟨#[b]⟩ u := by
 rw [apY_put hu];refine qg3 u (check_valid hu) fun x hx hk => ?_;have hxv : x ∈ varsOf u := qcp x hx hk;obtain ⟨i, hi, rfl⟩ := List.getElem_of_mem hxv;obtain ⟨v, g0, g1, g2⟩ := qct (N := qd4 u t) (n := 0) (qcx u) hi;have g1' : getS (qbk u t) (varsOf u)[i] = v := g1;rw [g1'];obtain ⟨hk2, e⟩ := List.getElem?_eq_some_iff.1 (show (newV u t)[i]? = some v from g0);rw [(qgb hab ha hb ht hu).ren (List.mem_append_right _ (List.mem_of_getElem? g0))];have e2 := qld (a := a) (b := b) (t := t) (u := u) hk2;rw [e] at e2;rw [e2, qfj (qcx u) hi, Nat.zero_add, g2]
theorem qj7 (ht : t.valid = 0) (hu : u.valid = 0) (hab : a ≠ b) (ha : qc0 a = true ∧ qcc a = true) (hb : qc0 b = true ∧ qcc b = true) : (apT ⟨#[a]⟩ t).valid = 0 ∧ (apT ⟨#[b]⟩ u).valid = 0 := by
 have hv := (qgb (t := t) (u := u) hab ha hb ht hu).renV;constructor
 ·rw [← qma ht hu hab ha hb];exact (valid_ren hv (check_valid ht) (fun y hy hk => List.mem_append_left _ (qcp y hy hk))).2 ht
 ·rw [← qj8 ht hu hab ha hb];exact (valid_ren hv (check_valid (qeg hu ht)) (apY_inV hu ht)).2 (qeg hu ht)
theorem ql5 (ht : t.valid = 0) (hu : u.valid = 0) (hab : a ≠ b) (ha : qc0 a = true ∧ qcc a = true) (hb : qc0 b = true ∧ qcc b = true) (sw : Bool) {n m : Nat} {r r' : Int × List Bd} (h1 : runU n [(t, apY u t)] [] = some r)
  (h2 : runU m [swP sw (apT ⟨#[a]⟩ t, apT ⟨#[b]⟩ u)] [] = some r') : r'.1 = r.1 := by
 have hs := sim_start (qgb (t := t) (u := u) hab ha hb ht hu).renV sw (t := t) (u := apY u t) (fun y hy hk => List.mem_append_left _ (qcp y hy hk)) (apY_inV hu ht);unfold renP at hs;rw [qma ht hu hab ha hb, qj8 ht hu hab ha hb] at hs;exact sim_run h1 h2 hs
end
end Go.Proofs.YtpjmdilpldaapaaGreatDoor
