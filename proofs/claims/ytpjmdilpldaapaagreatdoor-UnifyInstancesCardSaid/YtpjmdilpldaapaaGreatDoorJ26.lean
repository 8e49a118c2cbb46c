/- Umat1, Udisj0, Uvar0, Uvarp, Uins0, Ufewb, Uins1, Umatr, Umix5 (joined by shake.py). -/
import Derived.Test.YtpjmdilpldaapaaGreatDoorJ7
import Derived.Test.YtpjmdilpldaapaaGreatDoorJ11
import Derived.Test.YtpjmdilpldaapaaGreatDoorJ12
import Derived.Test.YtpjmdilpldaapaaGreatDoorJ14
import Derived.Test.YtpjmdilpldaapaaGreatDoorJ15
import Derived.Test.YtpjmdilpldaapaaGreatDoorJ18
import Derived.Test.YtpjmdilpldaapaaGreatDoorJ20
import Derived.Test.YtpjmdilpldaapaaGreatDoorJ25
set_option maxRecDepth 100000
namespace Go.Proofs.YtpjmdilpldaapaaGreatDoor
mutual
theorem qgl {a b : List Bd} : ∀ t : Tm, (∀ x ∈ t.all, x.kind = 1 → getS a x = getS b x) → t.check = 0 → t.put a = t.put b
 | .mk k n s l, h, hc => by
  by_cases hk : k = 1
  ·rw [Tm.put_var a (.mk k n s l) hk, Tm.put_var b (.mk k n s l) hk];exact h _ (by rw [Tm.all]; exact List.mem_cons_self ..) hk
  ·rw [Tm.put_app a k n s l hk, Tm.put_app b k n s l hk];rcases qb5 hc with ⟨-, rfl⟩ | ⟨-, -, hcl⟩
   ·rfl
   ·rw [qfk l (fun x hx => h x (by rw [Tm.all]; exact List.mem_cons_of_mem _ hx)) hcl]
theorem qfk {a b : List Bd} : ∀ l : List Tm, (∀ x ∈ Tm.alls l, x.kind = 1 → getS a x = getS b x) → Tm.checks l = 0 → Tm.puts a l = Tm.puts b l
 | [], _, _ => by rw [Tm.puts, Tm.puts]
 | t :: r, h, hc => by
  obtain ⟨h1, h2⟩ := qbi hc;rw [Tm.puts, Tm.puts, qgl t (fun x hx => h x (by rw [Tm.alls]; exact List.mem_append_left _ hx)) h1, qfk r (fun x hx => h x (by rw [Tm.alls]; exact List.mem_append_right _ hx)) h2]
end
theorem qf2 {p x : Tm} : x ∈ varsOf p ↔ x ∈ p.all ∧ x.kind = 1 := by
 unfold varsOf;rw [Tm.mem_set, List.mem_filter];simp
structure RenTab (s : List Bd) (L : List Tm) : Prop where
 leaf : ∀ x ∈ L, x.kind = 1 ∧ x.kids = []
 new : ∀ x ∈ L, (getS s x).kind = 1 ∧ (getS s x).kids = [] ∧ (getS s x).sort = x.sort ∧ qcp (getS s x).name.data.toList = true
 inj : ∀ x ∈ L, ∀ y ∈ L, getS s x = getS s y → x = y
def fT (s : List Bd) (n : ByteArray) (o : Int) : ByteArray := (getS s (.mk 1 n o [])).name
theorem qha {x : Tm} (h : x.kind = 1 ∧ x.kids = []) : x = .mk 1 x.name x.sort [] := by
 obtain ⟨k, n, s, l⟩ := x;obtain ⟨h1, h2⟩ := h;simp only [Tm.kind, Tm.kids] at h1 h2;rw [h1, h2]; rfl
theorem RenTab.ren {s : List Bd} {L : List Tm} (h : RenTab s L) {x : Tm} (hx : x ∈ L) : x.ren (fT s) = getS s x := by
 have e := qha (h.leaf x hx);obtain ⟨h1, h2, h3, -⟩ := h.new x hx;have e2 := qha ⟨h1, h2⟩;rw [e2, h3];rw [e];rw [Tm.ren, if_pos rfl, Tm.rens];show Tm.mk 1 (getS s (.mk 1 x.name x.sort [])).name x.sort [] = _;rw [← e]
theorem RenTab.renV {s : List Bd} {L : List Tm} (h : RenTab s L) : RenV (fT s) (fun x => x ∈ L) := by
 refine ⟨h.leaf, fun y z hy hz e => ?_, fun y hy => ?_⟩
 ·rw [h.ren hy, h.ren hz] at e;exact h.inj y hy z hz e
 ·have e := qha (h.leaf y hy);obtain ⟨-, -, -, h4⟩ := h.new y hy;show qcp (getS s (.mk 1 y.name y.sort [])).name.data.toList = true;rw [← e]; exact h4
mutual
theorem qf6 {s : List Bd} {f : ByteArray → Int → ByteArray} : ∀ t : Tm, t.check = 0 → (∀ x ∈ t.all, x.kind = 1 → getS s x = x.ren f) → t.put s = t.ren f
 | .mk k n so l, hc, h => by
  by_cases hk : k = 1
  ·rw [Tm.put_var s (.mk k n so l) hk];exact h _ (by rw [Tm.all]; exact List.mem_cons_self ..) hk
  ·rw [Tm.put_app s k n so l hk, Tm.ren, if_neg hk];rcases qb5 hc with ⟨-, rfl⟩ | ⟨-, -, hcl⟩
   ·rw [Tm.puts, Tm.rens]
   ·rw [qhl l hcl (fun x hx => h x (by rw [Tm.all]; exact List.mem_cons_of_mem _ hx))]
theorem qhl {s : List Bd} {f : ByteArray → Int → ByteArray} : ∀ l : List Tm, Tm.checks l = 0 → (∀ x ∈ Tm.alls l, x.kind = 1 → getS s x = x.ren f) → Tm.puts s l = Tm.rens f l
 | [], _, _ => by rw [Tm.puts, Tm.rens]
 | t :: r, hc, h => by
  obtain ⟨h1, h2⟩ := qbi hc;rw [Tm.puts, Tm.rens, qf6 t h1 (fun x hx => h x (by rw [Tm.alls]; exact List.mem_append_left _ hx)), qhl r h2 (fun x hx => h x (by rw [Tm.alls]; exact List.mem_append_right _ hx))]
end
mutual
theorem qho {s s' : List Bd} {f : ByteArray → Int → ByteArray} : ∀ t : Tm, t.check = 0 → (∀ x ∈ t.all, x.kind = 1 → (getS s x).ren f = getS s' x) → (t.put s).ren f = t.put s'
 | .mk k n so l, hc, h => by
  by_cases hk : k = 1
  ·rw [Tm.put_var s (.mk k n so l) hk, Tm.put_var s' (.mk k n so l) hk];exact h _ (by rw [Tm.all]; exact List.mem_cons_self ..) hk
  ·rw [Tm.put_app s k n so l hk, Tm.put_app s' k n so l hk, Tm.ren, if_neg hk];rcases qb5 hc with ⟨-, rfl⟩ | ⟨-, -, hcl⟩
   ·rw [Tm.puts, Tm.puts, Tm.rens]
   ·rw [qgk l hcl (fun x hx => h x (by rw [Tm.all]; exact List.mem_cons_of_mem _ hx))]
theorem qgk {s s' : List Bd} {f : ByteArray → Int → ByteArray} : ∀ l : List Tm, Tm.checks l = 0 → (∀ x ∈ Tm.alls l, x.kind = 1 → (getS s x).ren f = getS s' x) → Tm.rens f (Tm.puts s l) = Tm.puts s' l
 | [], _, _ => by rw [Tm.puts, Tm.puts, Tm.rens]
 | t :: r, hc, h => by
  obtain ⟨h1, h2⟩ := qbi hc;rw [Tm.puts, Tm.puts, Tm.rens, qho t h1 (fun x hx => h x (by rw [Tm.alls]; exact List.mem_append_left _ hx)), qgk r h2 (fun x hx => h x (by rw [Tm.alls]; exact List.mem_append_right _ hx))]
end
theorem RenTab.put {s : List Bd} {L : List Tm} (h : RenTab s L) {t : Tm} (hc : t.check = 0) (hV : InV (fun x => x ∈ L) t) : t.put s = t.ren (fT s) :=
 qf6 t hc fun x hx hk => (h.ren (hV x hx hk)).symm
theorem asc_nodup {L : List Tm} (h : Asc L) : L.Nodup := h.imp fun {a b} hab e => by
 rw [e, Tm.cmp_self] at hab; omega
theorem qfr {nm : ByteArray} : ∀ {L : List Tm} {i k : Nat} (_ : L.Nodup) (hk : k < L.length), getS (apUL nm L i) L[k] = newU nm (i + k) L[k].sort
 | x :: L, i, 0, _, _ => by rw [apUL, getS, List.getElem_cons_zero, if_pos rfl]; rfl
 | x :: L, i, k + 1, h, hk => by
  obtain ⟨h1, h2⟩ := List.nodup_cons.1 h;have hk' : k < L.length := by simpa using hk
  rw [apUL, getS, List.getElem_cons_succ, if_neg (fun e => h1 (by
   have e2 : x = L[k] := e;rw [e2]; exact List.getElem_mem hk')), qfr h2 hk', show i + 1 + k = i + (k + 1) by omega]
theorem qhx {nm : ByteArray} {y : Tm} : ∀ {L : List Tm} {i : Nat}, y ∈ L → hasS (apUL nm L i) y = true
 | x :: L, i, h => by
  rw [apUL, hasS];by_cases e : x = y
  ·rw [if_pos e]
  ·rw [if_neg e];rcases List.mem_cons.1 h with h | h
   ·exact absurd h.symm e
   ·exact qhx h
theorem qhz {r : List Bd} {y : Tm} : ∀ {s : List Bd}, hasS s y = true → getS (s ++ r) y = getS s y
 | b :: s, h => by
  rw [List.cons_append, getS, getS];by_cases e : b.1 = y
  ·rw [if_pos e, if_pos e]
  ·rw [if_neg e, if_neg e];rw [hasS, if_neg e] at h;exact qhz h
theorem qk4 {r : List Bd} {y : Tm} : ∀ {s : List Bd}, hasS s y = false → getS (s ++ r) y = getS r y
 | [], _ => rfl
 | b :: s, h => by
  rw [List.cons_append, getS];by_cases e : b.1 = y
  ·rw [hasS, if_pos e] at h; cases h
  ·rw [if_neg e];rw [hasS, if_neg e] at h;exact qk4 h
theorem qkv {c : UInt8} {i : Nat} {s : Int} : (newU ⟨#[c]⟩ i s).name.data.toList = c :: Lib.decDigits i := by
 show ((⟨#[c]⟩ : ByteArray) ++ ⟨(Lib.decDigits i).toArray⟩).data.toList = _;simp [ByteArray.data_append]
theorem qg2 {c d : UInt8} {i j : Nat} {s s' : Int} (h : newU ⟨#[c]⟩ i s = newU ⟨#[d]⟩ j s') : c = d ∧ i = j := by
 have h1 := congrArg (fun x : Tm => x.name.data.toList) h;simp only [qkv] at h1;injection h1 with h2 h3;exact ⟨h2, qi8 i j h3⟩
theorem qiy {c : UInt8} (hc : qcx c = true) (hp : qcc c = true) {i : Nat} (h : i < 18446744073709551616) {s : Int} : qcp (newU ⟨#[c]⟩ i s).name.data.toList = true := by
 rw [qkv];unfold qcp;have h1 := Lib.nDigits_le20 i h;have h2 := Lib.decDigits_length i;have h3 : (Lib.decDigits i).all qcc = true := List.all_eq_true.2 (qh5 i);simp only [List.length_cons, List.all_cons, h3, hp, hc, Bool.and_self, Bool.and_true, decide_eq_true_eq];omega
theorem qlk {N : List ByteArray} : ∀ (L : List Tm) (n : Nat), n ≤ qc4 N L n
 | [], _ => Nat.le_refl _
 | _ :: L, n => by
  rw [qc4];have h1 := (qbl N n).1;have h2 := qlk (N := N) L (qay N n + 1);omega
theorem qdw {N : List ByteArray} : ∀ {L : List Tm} {n : Nat} {v : Tm}, v ∈ (qbo N L n).map Prod.snd → ∃ F, (n ≤ F ∧ F < qc4 N L n) ∧ v.kind = 1 ∧ v.kids = [] ∧ v.name = qaw F ∧ qaw F ∉ N
 | x :: L, n, v, h => by
  rw [qbo, List.map_cons] at h;rw [qc4];obtain ⟨h1, -, h3, -⟩ := qbl N n;rcases List.mem_cons.1 h with rfl | h
  ·exact ⟨qay N n, ⟨h1, by have := qlk (N := N) L (qay N n + 1); omega⟩, rfl, rfl, rfl, h3⟩
  ·obtain ⟨F, g1, g2⟩ := qdw h;exact ⟨F, ⟨by omega, g1.2⟩, g2⟩
theorem qeh {N : List ByteArray} : ∀ (L : List Tm) (n : Nat), ((qbo N L n).map Prod.snd).Nodup
 | [], _ => by rw [qbo]; exact List.nodup_nil
 | x :: L, n => by
  rw [qbo, List.map_cons, List.nodup_cons];refine ⟨fun h => ?_, qeh L _⟩;obtain ⟨F, g1, -, -, g2, -⟩ := qdw h;have := qhy (show qaw (qay N n) = qaw F from g2);omega
theorem qce {N : List ByteArray} : ∀ {L : List Tm} {n k : Nat} (_ : L.Nodup) (hk : k < L.length), ∃ v, ((qbo N L n).map Prod.snd)[k]? = some v ∧ getS (qbo N L n) L[k] = v ∧ v.sort = L[k].sort
 | x :: L, n, 0, _, _ => by
  refine ⟨.mk 1 (qaw (qay N n)) x.sort [], by rw [qbo, List.map_cons]; rfl, ?_, rfl⟩;rw [qbo, List.getElem_cons_zero, getS, if_pos rfl]
 | x :: L, n, k + 1, h, hk => by
  obtain ⟨h1, h2⟩ := List.nodup_cons.1 h;have hk' : k < L.length := by simpa using hk
  obtain ⟨v, g1, g2, g3⟩ := qce (N := N) (n := qay N n + 1) h2 hk';refine ⟨v, by rw [qbo, List.map_cons, List.getElem?_cons_succ]; exact g1, ?_, g3⟩;rw [qbo, List.getElem_cons_succ, getS, if_neg (fun e => h1 (by
   have e2 : x = L[k] := e;rw [e2]; exact List.getElem_mem hk'))]
  exact g2
theorem qkt {l : List Tm} (h : l.Nodup) {i j : Nat} {v : Tm} (hi : l[i]? = some v) (hj : l[j]? = some v) : i = j := by
 obtain ⟨h1, e1⟩ := List.getElem?_eq_some_iff.1 hi;obtain ⟨h2, e2⟩ := List.getElem?_eq_some_iff.1 hj;rcases Nat.lt_trichotomy i j with k | k | k
 ·exact absurd (e1.trans e2.symm) (List.pairwise_iff_getElem.1 h i j h1 h2 k)
 ·exact k
 ·exact absurd (e2.trans e1.symm) (List.pairwise_iff_getElem.1 h j i h2 h1 k)
theorem qb2 {t : Tm} : InV (fun x => x ∈ varsOf t) t := fun _ hy hk => qf2.2 ⟨hy, hk⟩
theorem qbx (t : Tm) : (varsOf t).Nodup := asc_nodup (Tm.set_asc _)
theorem qdb {t : Tm} (h : t.valid = 0) {x : Tm} (hx : x ∈ varsOf t) : x.kind = 1 ∧ x.kids = [] := ⟨(qf2.1 hx).2, (qcq h x hx).1⟩
def newV (u t : Tm) : List Tm := (qbw u t).map Prod.snd
theorem newV_len (u t : Tm) : (newV u t).length = (varsOf u).length := by
 unfold newV qbw; rw [List.length_map, qd5]
theorem qku {u t x : Tm} (h : x ∈ newV u t) : x ∉ varsOf t ∧ x ∉ varsOf u := by
 obtain ⟨F, -, -, -, h1, h2⟩ := qdw h;have key : ∀ y, y ∈ varsOf t ∨ y ∈ varsOf u → y.name ∈ qdp u t := fun y hy => by
  unfold qdp;refine List.mem_map_of_mem ((Tm.mem_set _ _).2 ?_);unfold varsL;simp only [List.flatMap_cons, List.flatMap_nil, List.append_nil, List.mem_append];exact hy.symm
 exact ⟨fun hx => h2 (by rw [← h1]; exact key x (.inl hx)), fun hx => h2 (by rw [← h1]; exact key x (.inr hx))⟩
theorem qd8 {t u : Tm} (hu : u.valid = 0) (ht : t.valid = 0) : RenTab (qbw u t) (varsOf u) := by
 have hnd := qbx u;have hl := qbu u;have su := qai hu;have st := qai ht;refine ⟨fun x hx => qdb hu hx, fun x hx => ?_, fun x hx y hy e => ?_⟩
 ·obtain ⟨i, hi, rfl⟩ := List.getElem_of_mem hx;obtain ⟨v, g0, g1, g2⟩ := qce (N := qdp u t) (n := 0) hnd hi;have hm : v ∈ newV u t := List.mem_of_getElem? g0;have g1' : getS (qbw u t) (varsOf u)[i] = v := g1;rw [g1'];obtain ⟨F, q1, q2, q3, q4, q5⟩ := qdw hm;have hN : (qdp u t).length ≤ 800 := by
   unfold qdp;rw [List.length_map];have k1 := Tm.set_length (varsL [u, t]);have k2 := qfb [u, t];simp only [Tm.sizes] at k2;omega
  have hF : F < 18446744073709551616 := by
   have h1 := qia (qdp u t) (varsOf u) 0;have h2 : (varsOf u).length * ((qdp u t).length + 1) ≤ 400 * 801 := Nat.mul_le_mul (by omega) (by omega);have := q1.2;omega
  exact ⟨q2, q3, g2, by rw [q4]; exact qm5 hF⟩
 ·obtain ⟨i, hi, rfl⟩ := List.getElem_of_mem hx;obtain ⟨j, hj, rfl⟩ := List.getElem_of_mem hy;obtain ⟨v, g0, g1, -⟩ := qce (N := qdp u t) (n := 0) hnd hi;obtain ⟨v', g3, g4, -⟩ := qce (N := qdp u t) (n := 0) hnd hj;have e' : v = v' := by rw [← g1, ← g4]; exact e
  subst e';have := qkt (qeh (varsOf u) 0) g0 g3;subst this; rfl
def tbB (a b : UInt8) (t u : Tm) : List Bd := apUL ⟨#[a]⟩ (varsOf t) 0 ++ apUL ⟨#[b]⟩ (newV u t) 0
theorem tb_left {a b : UInt8} {t u : Tm} {i : Nat} (hi : i < (varsOf t).length) : getS (tbB a b t u) (varsOf t)[i] = newU ⟨#[a]⟩ i (varsOf t)[i].sort := by
 unfold tbB;rw [qhz (qhx (List.getElem_mem hi)), qfr (qbx t) hi, Nat.zero_add]
theorem qn4 (u t : Tm) : (newV u t).Nodup := qeh _ _
theorem qmn {a b : UInt8} {t u : Tm} {i : Nat} (hi : i < (newV u t).length) : getS (tbB a b t u) (newV u t)[i] = newU ⟨#[b]⟩ i (newV u t)[i].sort := by
 unfold tbB;rw [qk4 (qj4 (qku (List.getElem_mem hi)).1), qfr (qn4 u t) hi, Nat.zero_add]
theorem qgw {a b : UInt8} (hab : a ≠ b) (ha : qcx a = true ∧ qcc a = true) (hb : qcx b = true ∧ qcc b = true) {t u : Tm} (ht : t.valid = 0) (hu : u.valid = 0) : RenTab (tbB a b t u) (varsOf t ++ newV u t) := by
 have l1 := qbu t;have l2 := qbu u;have l3 := newV_len u t;have st := qai ht;have su := qai hu;have key : ∀ x ∈ varsOf t ++ newV u t, (∃ i, (varsOf t)[i]? = some x ∧ i < 1000 ∧ getS (tbB a b t u) x = newU ⟨#[a]⟩ i x.sort) ∨ (∃ i, (newV u t)[i]? = some x ∧ i < 1000 ∧ getS (tbB a b t u) x = newU ⟨#[b]⟩ i x.sort) := fun x hx => by
  rcases List.mem_append.1 hx with h | h
  ·obtain ⟨i, hi, rfl⟩ := List.getElem_of_mem h;exact .inl ⟨i, List.getElem?_eq_getElem hi, by omega, tb_left hi⟩
  ·obtain ⟨i, hi, rfl⟩ := List.getElem_of_mem h;exact .inr ⟨i, List.getElem?_eq_getElem hi, by omega, qmn hi⟩
 refine ⟨fun x hx => ?_, fun x hx => ?_, fun x hx y hy e => ?_⟩
 ·rcases List.mem_append.1 hx with h | h
  ·exact qdb ht h
  ·obtain ⟨F, -, h1, h2, -⟩ := qdw h;exact ⟨h1, h2⟩
 ·rcases key x hx with ⟨i, -, hi, e⟩ | ⟨i, -, hi, e⟩
  ·rw [e]; exact ⟨rfl, rfl, rfl, qiy ha.1 ha.2 (by omega)⟩
  ·rw [e]; exact ⟨rfl, rfl, rfl, qiy hb.1 hb.2 (by omega)⟩
 ·rcases key x hx with ⟨i, h1, -, e1⟩ | ⟨i, h1, -, e1⟩ <;> rcases key y hy with ⟨j, h2, -, e2⟩ | ⟨j, h2, -, e2⟩
  ·obtain ⟨-, e3⟩ := qg2 (e1.symm.trans (e.trans e2));subst e3;rw [h1] at h2; exact Option.some.inj h2
  ·exact absurd (qg2 (e1.symm.trans (e.trans e2))).1 hab
  ·exact absurd (qg2 (e1.symm.trans (e.trans e2))).1.symm hab
  ·obtain ⟨-, e3⟩ := qg2 (e1.symm.trans (e.trans e2));subst e3;rw [h1] at h2; exact Option.some.inj h2
def apY (u t : Tm) : Tm := u.rap (qbw u t)
theorem qmf {u t : Tm} (hu : u.valid = 0) : apY u t = u.put (qbw u t) :=
 qjn (fun _ hb => (qdb hu (qev hb).1).1) u (check_valid hu)
theorem apY_ren {u t : Tm} (hu : u.valid = 0) (ht : t.valid = 0) : apY u t = u.ren (fT (qbw u t)) := by
 rw [qmf hu];exact (qd8 hu ht).put (check_valid hu) qb2
theorem qdf {u t : Tm} (hu : u.valid = 0) (ht : t.valid = 0) : (apY u t).valid = 0 := by
 rw [apY_ren hu ht];exact (valid_ren (qd8 hu ht).renV (check_valid hu) qb2).2 hu
theorem apY_inV {u t : Tm} (hu : u.valid = 0) (ht : t.valid = 0) : InV (fun x => x ∈ varsOf t ++ newV u t) (apY u t) := by
 intro z hz hk;rw [apY_ren hu ht, all_ren] at hz;obtain ⟨x, hx, rfl⟩ := List.mem_map.1 hz;rw [qbq] at hk;have hxv : x ∈ varsOf u := qb2 x hx hk;refine List.mem_append_right _ ?_;rw [(qd8 hu ht).ren hxv];obtain ⟨i, hi, rfl⟩ := List.getElem_of_mem hxv;obtain ⟨v, g0, g1, -⟩ := qce (N := qdp u t) (n := 0) (qbx u) hi;have g1' : getS (qbw u t) (varsOf u)[i] = v := g1;rw [g1'];exact List.mem_of_getElem? g0
section
variable {a b : UInt8} {t u : Tm}
theorem qne (ht : t.valid = 0) (hu : u.valid = 0) (hab : a ≠ b) (ha : qcx a = true ∧ qcc a = true) (hb : qcx b = true ∧ qcc b = true) : t.ren (fT (tbB a b t u)) = apT ⟨#[a]⟩ t := by
 refine (qf6 t (check_valid ht) fun x hx hk => ?_).symm;have hxv : x ∈ varsOf t := qb2 x hx hk;rw [(qgw hab ha hb ht hu).ren (List.mem_append_left _ hxv)];unfold tbB;rw [qhz (qhx hxv)]
theorem qlm (ht : t.valid = 0) (hu : u.valid = 0) (hab : a ≠ b) (ha : qcx a = true ∧ qcc a = true) (hb : qcx b = true ∧ qcc b = true) : (apY u t).ren (fT (tbB a b t u)) = apT ⟨#[b]⟩ u := by
 rw [qmf hu];refine qho u (check_valid hu) fun x hx hk => ?_;have hxv : x ∈ varsOf u := qb2 x hx hk;obtain ⟨i, hi, rfl⟩ := List.getElem_of_mem hxv;obtain ⟨v, g0, g1, g2⟩ := qce (N := qdp u t) (n := 0) (qbx u) hi;have g1' : getS (qbw u t) (varsOf u)[i] = v := g1;rw [g1'];obtain ⟨hk2, e⟩ := List.getElem?_eq_some_iff.1 (show (newV u t)[i]? = some v from g0);rw [(qgw hab ha hb ht hu).ren (List.mem_append_right _ (List.mem_of_getElem? g0))];have e2 := qmn (a := a) (b := b) (t := t) (u := u) hk2;rw [e] at e2;rw [e2, qfr (qbx u) hi, Nat.zero_add, g2]
theorem apT_valid (ht : t.valid = 0) (hu : u.valid = 0) (hab : a ≠ b) (ha : qcx a = true ∧ qcc a = true) (hb : qcx b = true ∧ qcc b = true) : (apT ⟨#[a]⟩ t).valid = 0 ∧ (apT ⟨#[b]⟩ u).valid = 0 := by
 have hv := (qgw (t := t) (u := u) hab ha hb ht hu).renV;constructor
 ·rw [← qne ht hu hab ha hb];exact (valid_ren hv (check_valid ht) (fun y hy hk => List.mem_append_left _ (qb2 y hy hk))).2 ht
 ·rw [← qlm ht hu hab ha hb];exact (valid_ren hv (check_valid (qdf hu ht)) (apY_inV hu ht)).2 (qdf hu ht)
theorem disj_run (ht : t.valid = 0) (hu : u.valid = 0) (hab : a ≠ b) (ha : qcx a = true ∧ qcc a = true) (hb : qcx b = true ∧ qcc b = true) (sw : Bool) {n m : Nat} {r r' : Int × List Bd} (h1 : runU n [(t, apY u t)] [] = some r)
  (h2 : runU m [swP sw (apT ⟨#[a]⟩ t, apT ⟨#[b]⟩ u)] [] = some r') : r'.1 = r.1 := by
 have hs := sim_start (qgw (t := t) (u := u) hab ha hb ht hu).renV sw (t := t) (u := apY u t) (fun y hy hk => List.mem_append_left _ (qb2 y hy hk)) (apY_inV hu ht);unfold renP at hs;rw [qne ht hu hab ha hb, qlm ht hu hab ha hb] at hs;exact sim_run h1 h2 hs
end
def swB (m : List Bd) : List Bd := m.map fun b => (b.2, b.1)
structure OneB (m : List Bd) : Prop where
 vars : ∀ b ∈ m, b.1.kind = 1 ∧ b.2.kind = 1 ∧ b.1.valid = 0 ∧ b.2.valid = 0 ∧ b.1.sort = b.2.sort
 one : ∀ a ∈ m, ∀ b ∈ m, a.1 = b.1 ↔ a.2 = b.2
theorem OneB.nil : OneB [] := ⟨by simp, by simp⟩
theorem OneB.swap {m : List Bd} (h : OneB m) : OneB (swB m) := by
 refine ⟨fun b hb => ?_, fun a ha b hb => ?_⟩
 ·obtain ⟨q, hq, rfl⟩ := List.mem_map.1 hb;obtain ⟨h1, h2, h3, h4, h5⟩ := h.vars q hq;exact ⟨h2, h1, h4, h3, h5.symm⟩
 ·obtain ⟨q, hq, rfl⟩ := List.mem_map.1 ha;obtain ⟨r, hr, rfl⟩ := List.mem_map.1 hb;exact (h.one q hq r hr).symm
theorem OneB.cons {m : List Bd} (h : OneB m) : consU m := fun a ha b hb e => (h.one a ha b hb).1 e
theorem OneB.fit {m : List Bd} (h : OneB m) : FitS m := fun b hb => by
 obtain ⟨h1, h2, h3, h4, h5⟩ := h.vars b hb;exact ⟨check_valid h4, .inr ⟨by omega, h5.symm⟩⟩
theorem qjf {N : List ByteArray} : ∀ (L : List Tm) (n : Nat), (qbo N L n).map Prod.fst = L
 | [], _ => rfl
 | x :: L, n => by rw [qbo, List.map_cons, qjf L]
theorem qn3 {P : List Bd} {f : Bd → Tm} (h : (P.map f).Nodup) {a b : Bd} (ha : a ∈ P) (hb : b ∈ P) (e : f a = f b) : a = b := by
 obtain ⟨i, hi, rfl⟩ := List.getElem_of_mem ha;obtain ⟨j, hj, rfl⟩ := List.getElem_of_mem hb;have h1 : (P.map f)[i]? = some (f P[i]) := by rw [List.getElem?_map, List.getElem?_eq_getElem hi]; rfl
 have h2 : (P.map f)[j]? = some (f P[i]) := by rw [List.getElem?_map, List.getElem?_eq_getElem hj, e]; rfl
 have := qkt h h1 h2;subst this; rfl
theorem qgf {t : Tm} (h : t.valid = 0) : ∀ x ∈ varsOf t, x.valid = 0 := fun x hx => by
 obtain ⟨h1, h2⟩ := qdb h hx;have hc := check_all t (check_valid h) x (qf2.1 hx).1;refine qat.2 ⟨hc, ?_, ?_⟩
 ·rw [qkh, h2];exact (by decide : 1 + 0 ≤ 400)
 ·rw [qha ⟨h1, h2⟩, Tm.depth];simp [Tm.depths]
mutual
theorem put_two {s ρ τ : List Bd} : ∀ t : Tm, (∀ x ∈ t.all, x.kind = 1 → getS τ x = (getS s x).put ρ) → t.put τ = (t.put s).put ρ
 | .mk k n so l, h => by
  by_cases hk : k = 1
  ·have hk' : (Tm.mk k n so l).kind = 1 := hk;rw [put_var hk', put_var hk'];exact h _ (by rw [Tm.all]; exact List.mem_cons_self ..) hk'
  ·rw [Tm.put, if_neg hk, Tm.put, if_neg hk, Tm.put, if_neg hk, qm0 l fun x hx => h x (by rw [Tm.all]; exact List.mem_cons_of_mem _ hx)]
theorem qm0 {s ρ τ : List Bd} : ∀ l : List Tm, (∀ x ∈ Tm.alls l, x.kind = 1 → getS τ x = (getS s x).put ρ) → Tm.puts τ l = Tm.puts ρ (Tm.puts s l)
 | [], _ => rfl
 | t :: r, h => by
  rw [Tm.puts, Tm.puts, Tm.puts, put_two t fun x hx => h x (by rw [Tm.alls]; exact List.mem_append_left _ hx), qm0 r fun x hx => h x (by rw [Tm.alls]; exact List.mem_append_right _ hx)]
end
def qob (t : Tm) (s ρ : List Bd) : List Bd := (varsOf t).map fun x => (x, (x.put s).put ρ)
theorem instP_in {t x : Tm} {s ρ : List Bd} (h : x ∈ varsOf t) : getS (qob t s ρ) x = (x.put s).put ρ := by
 rcases qbk x (qob t s ρ) with ⟨b, hb, e1, e2⟩ | ⟨-, e⟩
 ·obtain ⟨y, -, rfl⟩ := List.mem_map.1 hb;rw [e2];have e3 : y = x := e1;rw [e3]
 ·exact absurd rfl (e (x, (x.put s).put ρ) (List.mem_map_of_mem h))
theorem instP_out {t x : Tm} {s ρ : List Bd} (h : x ∉ varsOf t) : getS (qob t s ρ) x = x := by
 rcases qbk x (qob t s ρ) with ⟨b, hb, e1, -⟩ | ⟨e, -⟩
 ·obtain ⟨y, hy, rfl⟩ := List.mem_map.1 hb;have e3 : y = x := e1;exact absurd (e3 ▸ hy) h
 ·exact e
theorem apart_bd {c t : Tm} (hc : c.valid = 0) (ht : t.valid = 0) {b : Bd} (hb : b ∈ qbw c t) : b.2.check = 0 ∧ b.2.kind = 1 ∧ b.2.sort = b.1.sort := by
 obtain ⟨h1, h2, h3, h4⟩ := qev hb;have hv := qgf hc;have k1 : ((qbw c t).map Prod.fst).Nodup := by
  show ((qbo _ _ _).map Prod.fst).Nodup;rw [qjf]; exact qbx c
 have hg : getS (qbw c t) b.1 = b.2 := by
  rcases qbk b.1 (qbw c t) with ⟨d, hd, e1, e2⟩ | ⟨-, e2⟩
  ·rw [e2, qn3 k1 hd hb e1]
  ·exact absurd rfl (e2 b hb)
 have hT := qd8 hc ht;have hr := hT.ren h1;rw [hg] at hr;have hvv := hv b.1 h1;refine ⟨?_, h2, h4⟩;rw [← hr];refine check_valid ((valid_ren hT.renV (check_valid hvv) ?_).2 hvv);intro y hy hk;obtain ⟨e1, e2⟩ := qdb hc h1;have e3 : b.1 = .mk 1 b.1.name b.1.sort [] := qha ⟨e1, e2⟩;rw [e3, Tm.all, Tm.alls] at hy;rcases List.mem_cons.1 hy with rfl | hy
 ·rw [← e3]; exact h1
 ·cases hy
theorem apart_fit {c t : Tm} (hc : c.valid = 0) (ht : t.valid = 0) : FitS (qbw c t) := fun b hb => by
 obtain ⟨h1, h2, h3⟩ := apart_bd hc ht hb;exact ⟨h1, .inr ⟨by rw [h2]; decide, h3⟩⟩
theorem qm4 {t c : Tm} {s : List Bd} (ht : t.valid = 0) (hc : c.valid = 0) (hf : FitS s) (he : t.put s = c) :
  ∃ τ, FitS τ ∧ t.put τ = apY c t ∧ (apY c t).put τ = apY c t := by
 have hr := apart_fit hc ht;refine ⟨qob t s (qbw c t), fun b hb => ?_, ?_, ?_⟩
 ·obtain ⟨x, hx, rfl⟩ := List.mem_map.1 hb;obtain ⟨k1, -⟩ := qdb ht hx;have hxc := check_valid (qgf ht x hx);refine ⟨qcg hr.check _ (qcg hf.check _ hxc), ?_⟩;by_cases h0 : x.sort = 0
  ·exact .inl h0
  ·right;obtain ⟨e1, e2⟩ := hf.sort k1 h0;show ((x.put s).put (qbw c t)).kind ≠ 3 ∧ ((x.put s).put (qbw c t)).sort = x.sort;by_cases hk : (x.put s).kind = 1
   ·obtain ⟨e3, e4⟩ := hr.sort hk (by rw [e1]; exact h0);exact ⟨e4, e3.trans e1⟩
   ·rw [qko hk];exact ⟨e2, e1⟩
 ·rw [qmf hc, ← he];refine put_two t fun x hx hk => ?_;rw [instP_in (qb2 x hx hk), put_var hk]
 ·have h1 : (apY c t).put (qob t s (qbw c t)) = (apY c t).put [] := by
   refine qgl _ (fun x hx hk => ?_) (check_valid (qdf hc ht));have hn : x ∉ varsOf t := by
    have hz := hx;rw [apY_ren hc ht, all_ren] at hz;obtain ⟨y, hy, rfl⟩ := List.mem_map.1 hz;rw [qbq] at hk;have hyv : y ∈ varsOf c := qb2 y hy hk;rw [(qd8 hc ht).ren hyv];obtain ⟨i, hi, rfl⟩ := List.getElem_of_mem hyv;obtain ⟨v, g0, g1, -⟩ := qce (N := qdp c t) (n := 0) (qbx c) hi;have g1' : getS (qbw c t) (varsOf c)[i] = v := g1;rw [g1'];exact (qku (List.mem_of_getElem? g0)).1
   rw [instP_out hn];rfl
  rw [h1, Tm.put_nil]
theorem qiq {t c : Tm} {s : List Bd} (ht : t.valid = 0) (hc : c.valid = 0) (hf : FitS s) (he : t.put s = c) {n : Nat} {r : Int × List Bd} (hr : runU n [(t, apY c t)] [] = some r) : r.1 = 0 := by
 obtain ⟨τ, h1, h2, h3⟩ := qm4 ht hc hf he;have hv := qdf hc ht;refine (qey hr h1 (fun p hp => ?_) (fun p hp => ?_)).1
 ·rw [List.mem_singleton.1 hp];exact h2.trans h3.symm
 ·rw [List.mem_singleton.1 hp];exact ⟨by rw [h2]; exact hv, by rw [h3]; exact hv⟩
theorem sym2 {a b : Tm} (ha : a.valid = 0) (hb : b.valid = 0) : qax a b = 0 := by unfold qax; rw [if_neg (by simpa using ha)]; exact hb
theorem qi3 {t c : Tm} {s : List Bd} (ht : t.valid = 0) (hc : c.valid = 0) (hf : FitS s) (he : t.put s = c) : ((qgo t c).2 == 0) = true := by
 unfold qgo;rw [if_neg (by rw [sym2 ht hc]; simp), if_pos ((mat_iff ht hc).2 ⟨s, hf, he⟩)];rfl
def takB (out : List Bd) (b : Bd) : Bool := decide (b.1.kind = 1) && decide (b.1.valid = 0) && decide (b.2.valid = 0) && qfs b.1 b.2 && out.all (fun o => !o.1.same b.1)
def fitF (out : List Bd) (b : Bd) : List Bd := if takB out b = true then out ++ [b] else out
def fitN (l : List Bd) (k : Nat) : List Bd := (l.take k).foldl fitF []
theorem qh3 (l : List Bd) (k : Nat) (h : k < l.length) : fitN l (k + 1) = fitF (fitN l k) l[k] := by
 unfold fitN;rw [List.take_succ_eq_append_getElem h, List.foldl_append];rfl
theorem qdk (l : List Bd) : ∀ k, ∀ b ∈ fitN l k, b ∈ l ∧ b.1.kind = 1 ∧ b.1.valid = 0 ∧ b.2.valid = 0 ∧ qfs b.1 b.2 = true
 | 0, b, h => by simp [fitN] at h
 | k + 1, b, h => by
  by_cases hk : k < l.length
  ·rw [qh3 l k hk] at h;unfold fitF at h
   split at h
   ·rename_i ho
    rcases List.mem_append.1 h with h | h
    ·exact qdk l k b h
    ·rw [List.mem_singleton.1 h];unfold takB at ho;simp only [Bool.and_eq_true, decide_eq_true_eq] at ho;exact ⟨List.getElem_mem hk, ho.1.1.1.1, ho.1.1.1.2, ho.1.1.2, ho.1.2⟩
   ·exact qdk l k b h
  ·have e : fitN l (k + 1) = fitN l k := by unfold fitN; rw [List.take_of_length_le (by omega), List.take_of_length_le (by omega)]
   rw [e] at h;exact qdk l k b h
theorem qh4 (l : List Bd) : ∀ k, (fitN l k).length ≤ k
 | 0 => by simp [fitN]
 | k + 1 => by
  have h1 := qh4 l k;by_cases hk : k < l.length
  ·rw [qh3 l k hk];unfold fitF
   split
   ·rw [List.length_append, List.length_singleton]; omega
   ·omega
  ·have e : fitN l (k + 1) = fitN l k := by unfold fitN; rw [List.take_of_length_le (by omega), List.take_of_length_le (by omega)]
   rw [e]; omega
theorem fitN_fit (l : List Bd) (k : Nat) : FitS (fitN l k) := fun b hb => by
 obtain ⟨-, h1, h2, h3, h4⟩ := qdk l k b hb;refine ⟨check_valid h3, ?_⟩;unfold qfs at h4;simp only [Bool.or_eq_true, Bool.and_eq_true, decide_eq_true_eq] at h4;exact h4
theorem fitN_put (l : List Bd) (k : Nat) {t : Tm} (ht : t.check = 0) : t.rap (fitN l k) = t.put (fitN l k) := qjn (fun b hb => (qdk l k b hb).2.1) t ht
end Go.Proofs.YtpjmdilpldaapaaGreatDoor
namespace Go.Proofs.YtpjmdilpldaapaaGreatDoor
open Go.RowKit Go.Sort
theorem wp_push2 {w : World} {o : Oper} {a : Act} {K : Act → World → Prop} {Q : Exit → Act → World → Prop} (s x : Operand)
  (ho : o.op = .call { callee := .builtin .append, args := #[s, x], argTypes := #[22, 22] })
  (base : Nat) (F : Nat → Prop) (v : Value) (its : List It) (hs : a.eval s = v) (hrow : RowT w base F v its)
  (X Y : It) (B c : Nat) (fr : Nat × Nat) (hx : a.eval x = .slice (some ⟨B, 0, none⟩) 2 c) (hB : w.heap[B]? = some (.cells (itCells [X, Y]).toArray 24 fr))
  (hX1 : RepP w (fun b => F b ∧ b < w.heap.size ∧ v.ownBlock ≠ some b) X.1 X.2.1 X.2.2) (hX2 : RepP w (fun b => F b ∧ b < w.heap.size ∧ v.ownBlock ≠ some b) Y.1 Y.2.1 Y.2.2) (hlen : (its.length + 2) * 56 ≤ 140737488355328) (hbase : base ≤ w.heap.size)
  (h : ∀ g cap w', RowT w' base F (.slice (some ⟨g, 0, none⟩) (its.length + 2) cap) (its ++ [X, Y]) → w.grownBy w' v.ownBlock → base ≤ g → K (a.put o.dst (.slice (some ⟨g, 0, none⟩) (its.length + 2) cap)) w') :
  Oper.wp Tryz.prog o a w K Q := by
 obtain ⟨i0, hi0, hz0, hz1, hz2⟩ := info_parts qca;refine wp_append_lies w s x _ ho base _ i0 _ 4 56 Tryz.underlying22 hi0 hz0 hz1 hz2 rfl (by omega) v its.length (itCells its) hs hrow.own ⟨B, 0, none⟩ 2 c (itCells [X, Y]) hx (by rw [qa4]; rfl)
  (fun j u hu => World.news_of_block hB j u (by simpa using hu)) (qbr [X, Y]) (by omega) (by unfold maxLen; omega) hlen hbase w.heap.size rfl ?_
 intro g cap w' h2 h3 h4 h5;have hg : g = w.heap.size ∨ v.ownBlock = some g := by rcases h4 with h | h; exact .inr h; exact .inl h
 have hR : RowT w' base F (.slice (some ⟨g, 0, none⟩) (its.length + 2) cap) (its ++ [X, Y]) := by
  refine ⟨by rw [qbv, List.length_append]; exact h2, fun x hx => ?_⟩;have key : ∀ (t : Tm) A c, RepP w (fun b => F b ∧ b < w.heap.size ∧ v.ownBlock ≠ some b) t A c → RepP w' (fun b => F b ∧ b < w'.heap.size ∧ (Value.slice (some ⟨g, 0, none⟩) (its.length + 2) cap).ownBlock ≠ some b) t A c := fun t A c hr => by
   refine RepP.mono ?_ ?_ _ _ _ hr
   ·rintro b ⟨k1, k2, k3⟩;refine ⟨k1, Nat.lt_of_lt_of_le k2 h3.size, fun e => ?_⟩;have e' : g = b := by injection e
    rcases hg with h | h
    ·omega
    ·rw [e'] at h; exact k3 h
   ·rintro p ⟨k1, k2, k3⟩;exact World.cell?_of_block (h3.block p.block k2 (fun e => k3 e.symm))
  rcases List.mem_append.1 hx with hx | hx
  ·exact key _ _ _ (hrow.reps x hx)
  ·simp only [List.mem_cons, List.not_mem_nil, or_false] at hx;rcases hx with rfl | rfl
   ·exact key _ _ _ hX1
   ·exact key _ _ _ hX2
 exact h g cap w' hR h3 (hR.lt g rfl).1
theorem qin (l : List Bd) (k : Nat) (h : k < l.length) : flat (l.take (k + 1)) = flat (l.take k) ++ [l[k].1, l[k].2] := by
 rw [List.take_succ_eq_append_getElem h, qh2]; rfl
def fewB3 (l : List Bd) : Bool := decide (((flat l).length : Int) ≤ 400) && decide (0 ≤ Tm.lefts (flat l) 450)
set_option maxHeartbeats 1200000 in
theorem qnu (l : List Bd) (A0 : Option Addr) (cap0 : Nat) (w : World) (hroom : l.length ≤ 8) (hrep : RepB w (fun b => b < w.heap.size) l A0 cap0) :
  Calls Tryz.prog 27 #[.slice A0 l.length cap0] w fun e w' => e = .returned (.bool (fewB3 l)) ∧ Below w.heap.size w w' := by
 have mixed : Tryz.prog.follows .mixedOrders = true := by kernel_rfl
 have HREP := Lib.hid hrep; clear hrep;go_enter Tryz.func27, Tryz.ntmps27
 go_wp2_with fail
 go_loopw [3, 4] (fun v i wr => ∃ (k c : Nat) (A : Option Addr) (its : List It), k ≤ l.length ∧ i = .int .i64 k ∧ v = .slice A its.length c ∧ Hid (its.length = 2 * k) ∧ Hid (RowT wr w.heap.size (fun b => b < w.heap.size) (.slice A its.length c) its) ∧
   Hid (its.map (·.1) = flat (l.take k)) ∧ Hid (Below w.heap.size w wr)) (fun _ i _ => l.length - (intOf i).toNat)
 case atStart => exact ⟨0, 0, none, [], Nat.zero_le _, rfl, rfl, rfl, RowT.nil _ _ _, rfl, Below.refl _ _⟩
 case round =>
  obtain ⟨k, c0, A0', its, hk, rfl, rfl, HM, HROW, HITS, HBW⟩ := hrel;have i1 : (0 : Int) ≤ (k : Int) := Int.natCast_nonneg _;by_cases hlt : k < l.length
  ·have i2 : (k : Int) < (l.length : Int) := by omega
   rcases HREP.out.2.2 with h | ⟨kb, off, hA0, hbB, hl⟩
   ·rw [h] at hlt; simp at hlt
   subst hA0;have hws := HBW.out.size;have hlr : qal wr (fun b => b < w.heap.size) (flat l) kb off := qal.mono (fun _ h => h) (fun p hp => HBW.out.cell hp) _ _ _ hbB hl;obtain ⟨A, c, A', c', h8⟩ := hlr.get8 k hlt;obtain ⟨a0, a1, a2, a3, b0, b1, b2, b3, r1, r2⟩ := h8;have hne : (Value.slice A0' its.length c0).ownBlock ≠ some kb := fun e => by have := (HROW.out.lt _ e).1; omega
   have hlen : (its.length + 2) * 56 ≤ 140737488355328 := by have := HM.out; omega
   have hnx := qin l k hlt;have HNX := Lib.hid hnx; clear hnx hlr hl;have hkb : kb < wr.drew.heap.size := by show kb < wr.heap.size; omega
   have hsd : wr.drew.heap.size = wr.heap.size := rfl;have hbZ : Below wr.heap.size wr wr.drew := (Below.refl _ _).drew;go_wp2_with fail
   refine qbp (fun Y => ∀ p : Addr, p.block < wr.drew.heap.size → (Value.slice A0' its.length c0).ownBlock ≠ some p.block → Y.cell? p = wr.drew.cell? p) 13 (.held 0 (.held 1 (.held 2 (.held 3 (.held 4 (.held 5 (.held 6 (.held 7 (.held 8 (.held 9 (.held 10 (.op 11 (.op 12 (.op 13 .nil)))))))))))))) mixed (by kernel_rfl) ?_;refine qah (v := .slice A0' its.length c0) rfl rfl (fun _ _ _ h => h) (fun _ _ _ => rfl) (fun Y hY => by (try simp only [Act.put]); go_simp) ?_;refine qah (v := .slice (some ⟨kb, off, none⟩) l.length cap0) rfl rfl (fun _ _ _ h => h) (fun _ _ _ => rfl) (fun Y hY => by (try simp only [Act.put]); go_simp) ?_;refine qah (v := .int .i64 k) rfl rfl (fun _ _ _ h => h) (fun _ _ _ => rfl) (fun Y hY => by (try simp only [Act.put]); go_simp) ?_
   refine qah (v := .pointer (some ⟨kb, off + k * 8, none⟩)) rfl rfl (fun _ _ _ h => h) (fun _ _ _ => rfl) (fun Y hY => by (try simp only [Act.put]); go_simp) ?_;refine qah (v := .pointer (some ⟨kb, off + k * 8, none⟩)) rfl rfl (fun _ _ _ h => h) (fun _ _ _ => rfl) (fun Y hY => by (try simp only [Act.put]); go_simp) ?_;refine qah (v := .agg #[.int .i64 l[k].1.kind, .string l[k].1.name, .int .i64 l[k].1.sort, .slice A l[k].1.kids.length c]) rfl rfl (fun _ _ _ h => h) (fun _ _ _ => rfl) (fun Y hY => by
    have z0 := (hY ⟨kb, off + k * 8, none⟩ hkb hne).trans a0;have z1 := (hY ⟨kb, off + k * 8 + 1, none⟩ hkb hne).trans a1;have z2 := (hY ⟨kb, off + k * 8 + 2, none⟩ hkb hne).trans a2;have z3 := (hY ⟨kb, off + k * 8 + 3, none⟩ hkb hne).trans a3
    (try simp only [Act.put]); go_simp) ?_
   refine qah (v := .slice (some ⟨kb, off, none⟩) l.length cap0) rfl rfl (fun _ _ _ h => h) (fun _ _ _ => rfl) (fun Y hY => by (try simp only [Act.put]); go_simp) ?_;refine qah (v := .int .i64 k) rfl rfl (fun _ _ _ h => h) (fun _ _ _ => rfl) (fun Y hY => by (try simp only [Act.put]); go_simp) ?_;refine qah (v := .pointer (some ⟨kb, off + k * 8, none⟩)) rfl rfl (fun _ _ _ h => h) (fun _ _ _ => rfl) (fun Y hY => by (try simp only [Act.put]); go_simp) ?_;refine qah (v := .pointer (some ⟨kb, off + k * 8 + 4, none⟩)) rfl rfl (fun _ _ _ h => h) (fun _ _ _ => rfl) (fun Y hY => by (try simp only [Act.put]); go_simp) ?_;refine qah (v := .agg #[.int .i64 l[k].2.kind, .string l[k].2.name, .int .i64 l[k].2.sort, .slice A' l[k].2.kids.length c']) rfl rfl (fun _ _ _ h => h) (fun _ _ _ => rfl) (fun Y hY => by
    have z0 := (hY ⟨kb, off + k * 8 + 4, none⟩ hkb hne).trans b0;have z1 := (hY ⟨kb, off + k * 8 + 5, none⟩ hkb hne).trans b1;have z2 := (hY ⟨kb, off + k * 8 + 6, none⟩ hkb hne).trans b2;have z3 := (hY ⟨kb, off + k * 8 + 7, none⟩ hkb hne).trans b3
    (try simp only [Act.put]); go_simp) ?_
   simp only [Act.put, List.setIfInBounds_toArray];generalize wr.drew = Z at *;refine mix_op rfl rfl (fun K hK => ?_);go_wp2_with fail
   refine ⟨fun _ p hp _ => (qaf (Nat.le_refl _) _).cell (by omega), ?_⟩;refine mix_op rfl rfl (fun K hK => ?_);have hrow5 := HROW.out.below hbZ;have key0 : ∀ (y : Tm) B d, RepP wr (fun b => b < w.heap.size) y B d → RepP Z (fun b => b < w.heap.size ∧ b < Z.heap.size ∧ (Value.slice A0' its.length c0).ownBlock ≠ some b) y B d := fun y B d h =>
    RepP.mono (fun b (g : b < w.heap.size) => ⟨g, by omega, fun e => by have := (HROW.out.lt _ e).1; omega⟩) (fun p (hp : p.block < w.heap.size) => hbZ.cell (by omega)) _ _ _ h
   obtain ⟨W6, hW6⟩ : ∃ W6, W6 = Z.alloc (.cells (itCells [(l[k].1, A, c), (l[k].2, A', c')]).toArray 24) := ⟨_, rfl⟩;have hb6 : Below Z.heap.size Z W6 := by rw [hW6]; exact qaf (Nat.le_refl _) _
   have hs6 : W6.heap.size = Z.heap.size + 1 := by rw [hW6]; simp
   have hx6 : W6.heap[Z.heap.size]? = some (.cells (itCells [(l[k].1, A, c), (l[k].2, A', c')]).toArray 24 (0, 0)) := by rw [hW6]; exact heap_alloc_new _ _
   have key : ∀ (y : Tm) B d, RepP Z (fun b => b < w.heap.size ∧ b < Z.heap.size ∧ (Value.slice A0' its.length c0).ownBlock ≠ some b) y B d → RepP W6 (fun b => b < w.heap.size ∧ b < W6.heap.size ∧ (Value.slice A0' its.length c0).ownBlock ≠ some b) y B d := fun y B d h =>
    RepP.mono (fun b ⟨g1, g2, g3⟩ => ⟨g1, by omega, g3⟩) (fun p ⟨_, hp, _⟩ => hb6.cell hp) _ _ _ h
   have hY1 := key _ _ _ (key0 _ _ _ r1);have hY2 := key _ _ _ (key0 _ _ _ r2);have hrow6 := hrow5.below hb6;simp only [itCells, Tm.cells, List.cons_append, List.nil_append] at hW6;rw [← hW6];refine wp_push2 (.tmp 11) (.tmp 22) (by rfl) w.heap.size (fun b => b < w.heap.size) (.slice A0' its.length c0) its (by rfl) hrow6 (l[k].1, A, c) (l[k].2, A', c') wr.heap.size _ (0, 0) (by rfl) (by rw [← hsd]; exact hx6) hY1 hY2 hlen (by omega) ?_;intro g cap2 w7 hrow7 hgr hbg;refine hK _ _ ⟨fun _ p hp hp2 => ?_, ?_⟩
   ·rw [World.cell?_of_block (hgr.block p.block (by omega) (fun e => hp2 e.symm)), hb6.cell (by omega)]
   clear hK K;simp only [Act.put, List.setIfInBounds_toArray];refine mix_op rfl rfl (fun K hK => ?_);go_wp2_with fail
   refine ⟨fun h => absurd h (by decide), ?_⟩;refine qd1 ?_;have HROW7 := Lib.hid hrow7; clear hrow7;have hbw7 : Below w.heap.size w w7 := ((HBW.out.trans (hbZ.mono hws)).trans (hb6.mono (by omega))).grown hgr (by omega) (fun j e => by have := (HROW.out.lt _ e).1; omega);have HBW7 := Lib.hid hbw7; clear hbw7 hgr hrow6 hrow5 hY1 hY2 key key0 hx6 hb6 hW6 hbZ;have HL2 : Hid ((its ++ [(l[k].1, A, c), (l[k].2, A', c')]).length = 2 * (k + 1) ∧ (its ++ [(l[k].1, A, c), (l[k].2, A', c')]).length = its.length + 2) := by
    have := HM.out;exact ⟨by simp; omega, by simp⟩
   go_wp2_with fail
   go_roundw
   case rel =>
    exact ⟨k + 1, cap2, some ⟨g, 0, none⟩, its ++ [(l[k].1, A, c), (l[k].2, A', c')], by omega, by go_num, by rw [HL2.out.2], HL2.out.1, by rw [HL2.out.2]; exact HROW7.out, by show (its ++ [(l[k].1, A, c), (l[k].2, A', c')]).map (·.1) = _; rw [List.map_append, HITS.out, HNX.out]; rfl, HBW7.out⟩
   case measure => simp [intOf]; omega
  ·obtain rfl : k = l.length := by omega
   have hf : its.map (·.1) = flat l := by have := HITS.out; rw [List.take_length] at this; exact this
   have hfl : its.length = (flat l).length := by rw [← hf]; simp
   obtain ⟨A9, c9, hv9, hS⟩ := HROW.out.toS (P := fun b => b < wr.heap.size) (fun b _ h => h) (fun b _ h => h);injection hv9 with g1 g2 g3;subst g1 g3;rw [hf] at hS;have FW := few_any (flat l) A0' c0 400 450 wr (by decide) (by decide) hS;rw [← hfl] at FW;have FW := Lib.hid FW;have HFL := Lib.hid hfl; clear hfl hf hS;go_wp2_with fail
   refine FW.out.mono ?_; clear FW;rintro e w2 ⟨rfl, hl2⟩;go_wp2_with fail
   go_ret
   exact ⟨by unfold fewB3; rw [← HFL.out]; rfl, HBW.out.trans (hl2.below.mono HBW.out.size)⟩
def UniOK (m : List Bd) (w : World) (e : Ending) (w' : World) : Prop :=
 ∃ A c, e = .returned (.tuple #[.slice A m.length c, .int .i64 0]) ∧ RepB w' (fun b => b < w'.heap.size) m A c ∧ Below w.heap.size w w'
theorem qmm {t c : Tm} (ht : t.valid = 0) (hc : c.valid = 0) (h0 : ∀ n r, runU n [(t, c)] [] = some r → r.1 = 0) :
  ∃ r, r.1 = 0 ∧ (∃ n, runU n [(t, c)] [] = some r) ∧ qfy (solvedU r).1 ∧
   ∀ (Z : World) T C ct cc, RepT Z Z.heap.size t T ct → RepT Z Z.heap.size c C cc → Calls Tryz.prog 12 #[t.val T ct, c.val C cc] Z (UniOK (solvedU r).1 Z) := by
 obtain ⟨r, g1, g2⟩ := qhd t c;obtain ⟨n, hn⟩ := g2 (sym2 ht hc);have e0 := h0 n r hn;refine ⟨r, e0, ⟨n, hn⟩, qlt g1 g2, fun Z T C ct cc h1 h2 => (qci t c T C ct cc Z r (by have := qai ht; omega) (by have := qai hc; omega) h1 h2 g1 g2).mono fun e w' h => ?_⟩;obtain ⟨A, k, he, hr, hb⟩ := h;rw [e0] at he;exact ⟨A, k, he, hr, hb⟩
theorem disj_ok {w0 : World} (HI : qbj 400 w0) {t x : Tm} {s : List Bd} (ht : t.valid = 0) (hx : x.valid = 0) (hf : FitS s) (he : t.put s = x) (Z : World) (T X : Option Addr) (ct cx : Nat) (hZ : Below w0.heap.size w0 Z)
  (h1 : RepT Z Z.heap.size t T ct) (h2 : RepT Z Z.heap.size x X cx) : Calls Tryz.prog 17 #[t.val T ct, x.val X cx] Z fun e w' => e = .returned (.bool false) ∧ Below Z.heap.size Z w' := by
 have c1 : qcx 108 = true ∧ qcc 108 = true := by decide
 have c2 : qcx 114 = true ∧ qcc 114 = true := by decide
 obtain ⟨r1, g1, g2⟩ := qhd (apT ⟨#[108]⟩ t) (apT ⟨#[114]⟩ x);obtain ⟨r2, -, k2⟩ := qhd t (apY x t);obtain ⟨v1, v2⟩ := apT_valid (a := 108) (b := 114) ht hx (by decide) c1 c2;obtain ⟨n1, e1⟩ := g2 (sym2 v1 v2);obtain ⟨n2, e2⟩ := k2 (sym2 ht (qdf hx ht));have f1 := disj_run (a := 108) (b := 114) ht hx (by decide) c1 c2 false e2 e1;have f2 := qiq ht hx hf he e2;have hd : disjR t x r1 = false := by
  unfold disjR;rw [if_neg (by rw [sym2 ht hx]; simp), f1, f2];rfl
 have := udisj_any t x T X ct cx w0 HI Z hZ r1 (by have := qai ht; omega) (by have := qai hx; omega) g1 g2 h1 h2;rw [hd] at this;exact this
theorem qkw {t u a : Tm} {s : List Bd} (ht : t.valid = 0) (ha : a.valid = 0) (hf : FitS s) (h1 : t.put s = a) (h2 : u.put s = a) {n : Nat} {r : Int × List Bd} (hr : runU n [(t, u)] [] = some r) :
  r.1 = 0 ∧ (t.rap (solvedU r).1).size ≤ 400 ∧ ((qgo (t.rap (solvedU r).1) a).2 == 0) = true := by
 obtain ⟨h0, hg⟩ := qey hr hf (fun p hp => by rw [List.mem_singleton.1 hp]; exact h1.trans h2.symm) (fun p hp => by rw [List.mem_singleton.1 hp]; exact ⟨by rw [h1]; exact ha, by rw [h2]; exact ha⟩);have hb := qgh hr;have e := qjn (fun b hb' => (hb b hb').2.1) t (check_valid ht);have hc : (t.put (solvedU r).1).check = 0 := qcg (fun b hb' => check_valid (hb b hb').2.2) _ (check_valid ht);have hgt : (t.put (solvedU r).1).put s = a := (hg t).trans h1;have hv : (t.put (solvedU r).1).valid = 0 := qgg hc (by rw [hgt]; exact ha);rw [e];exact ⟨h0, qai hv, qi3 hv ha hf hgt⟩
theorem mem_flatB {l : List Bd} {b : Bd} (h : b ∈ l) : b.1 ∈ flat l ∧ b.2 ∈ flat l := by
 obtain ⟨i, hi, rfl⟩ := List.getElem_of_mem h;obtain ⟨h1, h2⟩ := qjv l i hi;exact ⟨List.mem_of_getElem? h1, List.mem_of_getElem? h2⟩
theorem qok {l : List Bd} (h : fewB3 l = true) : qfy l := by
 unfold fewB3 at h;rw [Bool.and_eq_true, decide_eq_true_eq, decide_eq_true_eq] at h;have hs := Tm.lefts_each (by decide) h.2;intro b hb;obtain ⟨h1, h2⟩ := mem_flatB hb;have k1 := hs _ h1;have k2 := hs _ h2;omega
def qj8 : Obj := .cells #[.int .i64 0, .string ⟨#[]⟩, .int .i64 0, .slice none 0 0] 24 (0, 0)
structure APu (D y : World) (av : List Nat) : Prop where
 bel : Below D.heap.size D y
 bx : ∀ p ∈ av, D.heap.size ≤ p ∧ p < y.heap.size ∧ y.heap[p]? = some qj8
 nd : av.Nodup
def qav (y : World) (av : List Nat) (r : Tm) (A : Option Addr) (c : Nat) : Prop := RepP y (fun k => k < y.heap.size ∧ ∀ p ∈ av, k ≠ p) r A c
theorem APu.nil (D : World) : APu D D [] := ⟨Below.refl _ _, by simp, List.nodup_nil⟩
theorem APu.call {D y y' : World} {av : List Nat} (h : APu D y av) (hb : Below y.heap.size y y') : APu D y' av :=
 ⟨h.bel.trans (hb.mono h.bel.size), fun p hp => ⟨(h.bx p hp).1, Nat.lt_of_lt_of_le (h.bx p hp).2.1 hb.size, (hb.block _ (h.bx p hp).2.1).trans (h.bx p hp).2.2⟩, h.nd⟩
theorem APu.alloc {D y y' : World} {av : List Nat} (h : APu D y av) (hy : y' = y.alloc (.cells #[.int .i64 0, .string ⟨#[]⟩, .int .i64 0, .slice none 0 0] 24)) : APu D y' (y.heap.size :: av) := by
 have hb : Below y.heap.size y y' := by rw [hy]; exact qaf (Nat.le_refl _) _
 have hc := h.call hb;refine ⟨hc.bel, fun p hp => ?_, List.nodup_cons.2 ⟨fun hm => by have := (h.bx _ hm).2.1; omega, h.nd⟩⟩;rcases List.mem_cons.1 hp with rfl | hp
 ·exact ⟨h.bel.size, by rw [hy]; simp, by rw [hy]; exact heap_alloc_new _ _⟩
 ·exact hc.bx p hp
theorem qav.call {y y' : World} {av : List Nat} {r : Tm} {A : Option Addr} {c : Nat} (h : qav y av r A c) (hb : Below y.heap.size y y') : qav y' av r A c :=
 RepP.mono (fun _ h => ⟨Nat.lt_of_lt_of_le h.1 hb.size, h.2⟩) (fun _ hq => hb.cell hq.1) _ _ _ h
theorem qav.alloc {y y' : World} {av : List Nat} {r : Tm} {A : Option Addr} {c : Nat} (h : qav y av r A c) (hy : y' = y.alloc (.cells #[.int .i64 0, .string ⟨#[]⟩, .int .i64 0, .slice none 0 0] 24)) : qav y' (y.heap.size :: av) r A c := by
 have hb : Below y.heap.size y y' := by rw [hy]; exact qaf (Nat.le_refl _) _
 refine RepP.mono (fun k h => ⟨Nat.lt_of_lt_of_le h.1 hb.size, fun p hp => ?_⟩) (fun _ hq => hb.cell hq.1) _ _ _ h;rcases List.mem_cons.1 hp with rfl | hp
 ·have := h.1; omega
 ·exact h.2 p hp
theorem qav.new {D y y' : World} {av : List Nat} {r : Tm} {A : Option Addr} {c : Nat} (h : APu D y av) (hr : RepP y' (fun k => k < D.heap.size ∨ y.heap.size ≤ k ∧ k < y'.heap.size) r A c) (hb : Below y.heap.size y y') : qav y' av r A c := by
 refine RepP.mono (fun k hk => ⟨?_, fun p hp => ?_⟩) (fun _ _ => rfl) _ _ _ hr
 ·have := h.bel.size; have := hb.size;omega
 ·have := h.bx p hp;omega
theorem qfm {W : World} {B : Nat} {x y z u : Value} {q : Addr} (hq : q.block ≠ B) : ((((W.setCell ⟨B, 0, none⟩ x).setCell ⟨B, 1, none⟩ y).setCell ⟨B, 2, none⟩ z).setCell ⟨B, 3, none⟩ u).cell? q = W.cell? q := qdt hq
theorem qkq {W : World} {B : Nat} {x y z u : Value} : ((((W.setCell ⟨B, 0, none⟩ x).setCell ⟨B, 1, none⟩ y).setCell ⟨B, 2, none⟩ z).setCell ⟨B, 3, none⟩ u).heap.size = W.heap.size := by simp [World.setCell]
theorem qix {w W : World} {B B0 : Nat} {x y z u : Value} (h : Below B0 w W) (hB : B0 ≤ B) : Below B0 w ((((W.setCell ⟨B, 0, none⟩ x).setCell ⟨B, 1, none⟩ y).setCell ⟨B, 2, none⟩ z).setCell ⟨B, 3, none⟩ u) :=
 ((((h.setCell (by exact hB) _).setCell (by exact hB) _).setCell (by exact hB) _).setCell (by exact hB) _)
theorem two_ofu {D Z Z1 Z2 : World} {av : List Nat} {p q : Nat} {x y : Tm} {A : Option Addr} {c : Nat} {A' : Option Addr} {c' : Nat} (h : APu D Z av) (hp : p ∈ av) (hq : q ∈ av) (hne : p ≠ q) (hx : qav Z av x A c) (hy : qav Z av y A' c')
  (h1 : Z1 = (((Z.setCell ⟨p, 0, none⟩ (.int .i64 x.kind)).setCell ⟨p, 1, none⟩ (.string x.name)).setCell ⟨p, 2, none⟩ (.int .i64 x.sort)).setCell ⟨p, 3, none⟩ (.slice A x.kids.length c))
  (h2 : Z2 = (((Z1.setCell ⟨q, 0, none⟩ (.int .i64 y.kind)).setCell ⟨q, 1, none⟩ (.string y.name)).setCell ⟨q, 2, none⟩ (.int .i64 y.sort)).setCell ⟨q, 3, none⟩ (.slice A' y.kids.length c')) :
  Below D.heap.size D Z1 ∧ Z1.heap[q]? = some qj8 ∧ Below D.heap.size D Z2 ∧ BoxT Z2 p x A c ∧ BoxT Z2 q y A' c' := by
 have hb1 : Below D.heap.size D Z1 := by rw [h1]; exact qix h.bel (h.bx p hp).1
 have hs1 : Z1.heap.size = Z.heap.size := by rw [h1, qkq]
 have hs2 : Z2.heap.size = Z.heap.size := by rw [h2, qkq, hs1]
 have hbp1 : Z1.heap[p]? = some (.cells #[.int .i64 x.kind, .string x.name, .int .i64 x.sort, .slice A x.kids.length c] 24 (0, 0)) := by rw [h1]; exact qf8 (h.bx p hp).2.2
 have hbq1 : Z1.heap[q]? = some qj8 := by
  rw [h1]
  iterate 4 rw [Below.heap_setCell _ _ _ _ (by first | exact hne | exact hne.symm)]
  exact (h.bx q hq).2.2
 refine ⟨hb1, hbq1, by rw [h2]; exact qix hb1 (h.bx q hq).1, ⟨?_, ?_⟩, ⟨by rw [h2]; exact qf8 hbq1, ?_⟩⟩
 ·rw [h2]
  iterate 4 rw [Below.heap_setCell _ _ _ _ (by first | exact hne | exact hne.symm)]
  exact hbp1
 ·refine RepP.mono (fun k hk => by rw [hs2]; exact hk.1) (fun r hr => ?_) _ _ _ hx;rw [h2, qfm (hr.2 q hq), h1, qfm (hr.2 p hp)]
 ·refine RepP.mono (fun k hk => by rw [hs2]; exact hk.1) (fun r hr => ?_) _ _ _ hy;rw [h2, qfm (hr.2 q hq), h1, qfm (hr.2 p hp)]
set_option maxHeartbeats 1000000 in
theorem qnt (x t : Tm) (A A' : Option Addr) (c c' : Nat) (w : World) :
  Calls Tryz.prog 54 #[x.val A c, t.val A' c'] w fun e w' => e = .returned (.bool (qfs x t)) ∧ Lay w.heap.size w w' := by
 obtain ⟨V, hV⟩ : ∃ V, V = (w.alloc (boxT x A c)).alloc (boxT t A' c') := ⟨_, rfl⟩;have h2 : Two w x t A A' c c' V := by rw [hV]; exact Two.new _ _ _ _ _ _ _
 obtain ⟨r, hr⟩ : ∃ r, r = qfs x t := ⟨_, rfl⟩;rw [← hr];unfold qfs at hr;have HL := Lib.hid h2.lay;clear h2;have HR := Lib.hid hr; clear hr;simp only [boxT] at hV;have HV := Lib.hid hV; clear hV;simp only [Tm.val];go_enter Tryz.func54, Tryz.ntmps54
 rcases eq_facts x.sort 0 with ⟨h0, e0, n0⟩ | ⟨h0, e0, n0⟩
 ·have hr : r = true := by rw [HR.out]; simp [h0]
  subst hr;clear h0 HR;go_wp2_with fail
  go_ret
  rw [← HV.out];exact ⟨rfl, HL.out⟩
 rcases eq_facts t.kind 3 with ⟨h1, e1, n1⟩ | ⟨h1, e1, n1⟩
 ·have hr : r = false := by rw [HR.out]; simp [h0, h1]
  subst hr;clear h0 h1 HR;go_wp2_with fail
  go_ret
  rw [← HV.out];exact ⟨rfl, HL.out⟩
 rcases eq_facts t.sort x.sort with ⟨h3, e3, n3⟩ | ⟨h3, e3, n3⟩
 ·have hr : r = true := by rw [HR.out]; simp [h1, h3]
  subst hr;clear h0 h1 h3 HR;go_wp2_with fail
  go_ret
  rw [← HV.out];exact ⟨rfl, HL.out⟩
 ·have hr : r = false := by rw [HR.out]; simp [h0, h3]
  subst hr;clear h0 h1 h3 HR;go_wp2_with fail
  go_ret
  rw [← HV.out];exact ⟨rfl, HL.out⟩
def RMatched (base B : Nat) (r : List Bd × Bool) (own0 : Option Nat) (N : Nat) (w : World) (e : Ending) (w' : World) : Prop :=
 ∃ A c its, e = .returned (.tuple #[.slice A its.length c, .bool r.2]) ∧ its.map IB.bd = r.1 ∧ its.length ≤ N ∧ RowG 57 w' base (fun b => b < B) (.slice A its.length c) its ∧ Below base w w' ∧
  (∀ k, k < w.heap.size → own0 ≠ some k → w'.heap[k]? = w.heap[k]?) ∧ ∀ k, ownA A = some k → own0 = some k ∨ w.heap.size ≤ k
structure RAt (base B : Nat) (w : World) (own0 : Option Nat) (O : Option Addr) (oc : Nat) (its : List IB) (o1 o2 : Obj) (Z : World) : Prop where
 row : RowG 57 Z base (fun b => b < B) (.slice O its.length oc) its
 b1 : Z.heap[w.heap.size]? = some o1
 b2 : Z.heap[w.heap.size + 1]? = some o2
 bel : Below base w Z
 old : ∀ k, k < w.heap.size → own0 ≠ some k → Z.heap[k]? = w.heap[k]?
 own : ∀ k, ownA O = some k → own0 = some k ∨ w.heap.size + 2 ≤ k
section
variable {base B oc oc' : Nat} {w Z Z' : World} {own0 : Option Nat} {O O' : Option Addr} {its its' : List IB} {o1 o2 : Obj}
theorem RAt.lt (h : RAt base B w own0 O oc its o1 o2 Z) : w.heap.size + 2 ≤ Z.heap.size := (Array.getElem?_eq_some_iff.1 h.b2).1
theorem RAt.go (h : RAt base B w own0 O oc its o1 o2 Z) (hbw : base ≤ w.heap.size) (hb : Below Z.heap.size Z Z') : RAt base B w own0 O oc its o1 o2 Z' := by
 have hl := h.lt;exact ⟨h.row.below hb, (hb.block _ (by omega)).trans h.b1, (hb.block _ (by omega)).trans h.b2, h.bel.trans (hb.mono (by omega)), fun k hk hne => (hb.block k (by omega)).trans (h.old k hk hne), h.own⟩
theorem RAt.call (h : RAt base B w own0 O oc its o1 o2 Z) (ho0 : ∀ k, own0 = some k → k < w.heap.size) (hr : RowG 57 Z' base (fun b => b < B) (.slice O' its'.length oc') its') (hb : Below base Z Z') (ho : ∀ k, k < Z.heap.size → ownA O ≠ some k → Z'.heap[k]? = Z.heap[k]?) (hown : ∀ k, ownA O' = some k → ownA O = some k ∨ Z.heap.size ≤ k) :
  RAt base B w own0 O' oc' its' o1 o2 Z' := by
 have hl := h.lt;have n1 : ∀ k, w.heap.size ≤ k → k < w.heap.size + 2 → ownA O ≠ some k := fun k h1 h2 e => by
  rcases h.own k e with h3 | h3
  ·have := ho0 k h3; omega
  ·omega
 refine ⟨hr, (ho _ (by omega) (n1 _ (by omega) (by omega))).trans h.b1, (ho _ (by omega) (n1 _ (by omega) (by omega))).trans h.b2, h.bel.trans hb, fun k hk hne => (ho k (by omega) (fun e => ?_)).trans (h.old k hk hne), fun k e => ?_⟩
 ·rcases h.own k e with h3 | h3
  ·exact hne h3
  ·omega
 ·rcases hown k e with h3 | h3
  ·exact h.own k h3
  ·exact .inr (by omega)
theorem RAt.done (h : RAt base B w own0 O oc its o1 o2 Z) {r : List Bd × Bool} {N : Nat} (hr : its.map IB.bd = r.1) (hN : its.length ≤ N) : RMatched base B r own0 N w (.returned (.tuple #[.slice O its.length oc, .bool r.2])) Z :=
 ⟨O, oc, its, rfl, hr, hN, h.row, h.bel, h.old, fun k e => (h.own k e).imp id (fun h => by omega)⟩
end
end Go.Proofs.YtpjmdilpldaapaaGreatDoor
namespace Go.Proofs.YtpjmdilpldaapaaGreatDoor
theorem qby {P : Program} {ops : Array Oper} {Q : Exit → Act → World → Prop} {S S2 : World → Prop} {wk : List Nat} {i : Nat} {r : Mx3} {a : Act} {w : World} {o : Oper} {v : Value} (ho : ops[i]? = some o) (hg : Region.wanted o (yielded ops a.tmps) = true) (hw : wk.contains i = false) (hQ : ∀ c a' w', Q (.panic c) (a'.put o.dst v) w' → Q (.panic c) a' w')
  (hS : S w) (hS2 : S2 w) (hv : ∀ w, S w → S2 w → (execOp a.eval o).run P w = .ok (.value v) w) (h : qa0 P ops Q S S2 wk r (a.put o.dst v) w) : qa0 P ops Q S S2 wk (.held i r) a w :=
 ⟨⟨fun _ => hS, hS2⟩, o, v, ho, Or.inl ⟨hg, fun w h => hv w (h.1 hw) h.2⟩, hQ, h⟩
theorem qc8 {P : Program} {ops : Array Oper} {Q : Exit → Act → World → Prop} {S S2 : World → Prop} {wk : List Nat} {i : Nat} {r : Mx3} {a : Act} {w : World} {o : Oper} (ho : ops[i]? = some o) (hg : Region.wanted o (yielded ops a.tmps) = false) (_hw : wk.contains i = false) (hQ : ∀ c a' w', Q (.panic c) (a'.put o.dst undef) w' → Q (.panic c) a' w')
  (hS : S w) (hS2 : S2 w) (h : qa0 P ops Q S S2 wk r (a.put o.dst undef) w) : qa0 P ops Q S S2 wk (.held i r) a w :=
 ⟨⟨fun _ => hS, hS2⟩, o, undef, ho, Or.inr ⟨hg, rfl⟩, hQ, h⟩
end Go.Proofs.YtpjmdilpldaapaaGreatDoor
