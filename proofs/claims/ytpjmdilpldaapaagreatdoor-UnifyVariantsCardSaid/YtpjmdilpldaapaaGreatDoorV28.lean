/- Udisj, Umat1, Udisj0, Uvarp (joined by shake.py). -/
import Derived.Test.YtpjmdilpldaapaaGreatDoorV12
import Derived.Test.YtpjmdilpldaapaaGreatDoorV15
import Derived.Test.YtpjmdilpldaapaaGreatDoorV20
import Derived.Test.YtpjmdilpldaapaaGreatDoorV23
import Derived.Test.YtpjmdilpldaapaaGreatDoorV26
import Derived.Test.YtpjmdilpldaapaaGreatDoorV27
namespace Go.Proofs.YtpjmdilpldaapaaGreatDoor
open Go.RowKit Go.Sort
attribute [local irreducible] qaz
end Go.Proofs.YtpjmdilpldaapaaGreatDoor
namespace Go.Proofs.YtpjmdilpldaapaaGreatDoor
theorem qfu {p x : Tm} : x ∈ varsOf p ↔ x ∈ p.all ∧ x.kind = 1 := by
 unfold varsOf;rw [Tm.mem_set, List.mem_filter];simp
structure RenTab (s : List Bd) (L : List Tm) : Prop where
 leaf : ∀ x ∈ L, x.kind = 1 ∧ x.kids = []
 new : ∀ x ∈ L, (getS s x).kind = 1 ∧ (getS s x).kids = [] ∧ (getS s x).sort = x.sort ∧ qcw (getS s x).name.data.toList = true
 inj : ∀ x ∈ L, ∀ y ∈ L, getS s x = getS s y → x = y
def fT (s : List Bd) (n : ByteArray) (o : Int) : ByteArray := (getS s (.mk 1 n o [])).name
theorem qg1 {x : Tm} (h : x.kind = 1 ∧ x.kids = []) : x = .mk 1 x.name x.sort [] := by
 obtain ⟨k, n, s, l⟩ := x;obtain ⟨h1, h2⟩ := h;simp only [Tm.kind, Tm.kids] at h1 h2;rw [h1, h2]; rfl
theorem RenTab.ren {s : List Bd} {L : List Tm} (h : RenTab s L) {x : Tm} (hx : x ∈ L) : x.ren (fT s) = getS s x := by
 have e := qg1 (h.leaf x hx);obtain ⟨h1, h2, h3, -⟩ := h.new x hx;have e2 := qg1 ⟨h1, h2⟩;rw [e2, h3];rw [e];rw [Tm.ren, if_pos rfl, Tm.rens];show Tm.mk 1 (getS s (.mk 1 x.name x.sort [])).name x.sort [] = _;rw [← e]
theorem RenTab.renV {s : List Bd} {L : List Tm} (h : RenTab s L) : RenV (fT s) (fun x => x ∈ L) := by
 refine ⟨h.leaf, fun y z hy hz e => ?_, fun y hy => ?_⟩
 ·rw [h.ren hy, h.ren hz] at e;exact h.inj y hy z hz e
 ·have e := qg1 (h.leaf y hy);obtain ⟨-, -, -, h4⟩ := h.new y hy;show qcw (getS s (.mk 1 y.name y.sort [])).name.data.toList = true;rw [← e]; exact h4
mutual
theorem qid {s : List Bd} {f : ByteArray → Int → ByteArray} : ∀ t : Tm, t.check = 0 → (∀ x ∈ t.all, x.kind = 1 → getS s x = x.ren f) → t.put s = t.ren f
 | .mk k n so l, hc, h => by
  by_cases hk : k = 1
  ·rw [Tm.put_var s (.mk k n so l) hk];exact h _ (by rw [Tm.all]; exact List.mem_cons_self ..) hk
  ·rw [Tm.put_app s k n so l hk, Tm.ren, if_neg hk];rcases qc9 hc with ⟨-, rfl⟩ | ⟨-, -, hcl⟩
   ·rw [Tm.puts, Tm.rens]
   ·rw [qha l hcl (fun x hx => h x (by rw [Tm.all]; exact List.mem_cons_of_mem _ hx))]
theorem qha {s : List Bd} {f : ByteArray → Int → ByteArray} : ∀ l : List Tm, Tm.checks l = 0 → (∀ x ∈ Tm.alls l, x.kind = 1 → getS s x = x.ren f) → Tm.puts s l = Tm.rens f l
 | [], _, _ => by rw [Tm.puts, Tm.rens]
 | t :: r, hc, h => by
  obtain ⟨h1, h2⟩ := qdf hc;rw [Tm.puts, Tm.rens, qid t h1 (fun x hx => h x (by rw [Tm.alls]; exact List.mem_append_left _ hx)), qha r h2 (fun x hx => h x (by rw [Tm.alls]; exact List.mem_append_right _ hx))]
end
theorem RenTab.put {s : List Bd} {L : List Tm} (h : RenTab s L) {t : Tm} (hc : t.check = 0) (hV : InV (fun x => x ∈ L) t) : t.put s = t.ren (fT s) :=
 qid t hc fun x hx hk => (h.ren (hV x hx hk)).symm
theorem asc_nodup {L : List Tm} (h : Asc L) : L.Nodup := h.imp fun {a b} hab e => by
 rw [e, Tm.cmp_self] at hab; omega
theorem qkv {N : List ByteArray} : ∀ (L : List Tm) (n : Nat), n ≤ qcz N L n
 | [], _ => Nat.le_refl _
 | _ :: L, n => by
  rw [qcz];have h1 := (qbn N n).1;have h2 := qkv (N := N) L (qa4 N n + 1);omega
theorem qf4 {N : List ByteArray} : ∀ {L : List Tm} {n : Nat} {v : Tm}, v ∈ (qbs N L n).map Prod.snd → ∃ F, (n ≤ F ∧ F < qcz N L n) ∧ v.kind = 1 ∧ v.kids = [] ∧ v.name = qa1 F ∧ qa1 F ∉ N
 | x :: L, n, v, h => by
  rw [qbs, List.map_cons] at h;rw [qcz];obtain ⟨h1, -, h3, -⟩ := qbn N n;rcases List.mem_cons.1 h with rfl | h
  ·exact ⟨qa4 N n, ⟨h1, by have := qkv (N := N) L (qa4 N n + 1); omega⟩, rfl, rfl, rfl, h3⟩
  ·obtain ⟨F, g1, g2⟩ := qf4 h;exact ⟨F, ⟨by omega, g1.2⟩, g2⟩
theorem qee {N : List ByteArray} : ∀ (L : List Tm) (n : Nat), ((qbs N L n).map Prod.snd).Nodup
 | [], _ => by rw [qbs]; exact List.nodup_nil
 | x :: L, n => by
  rw [qbs, List.map_cons, List.nodup_cons];refine ⟨fun h => ?_, qee L _⟩;obtain ⟨F, g1, -, -, g2, -⟩ := qf4 h;have := qhh (show qa1 (qa4 N n) = qa1 F from g2);omega
theorem qdz {N : List ByteArray} : ∀ {L : List Tm} {n k : Nat} (_ : L.Nodup) (hk : k < L.length), ∃ v, ((qbs N L n).map Prod.snd)[k]? = some v ∧ getS (qbs N L n) L[k] = v ∧ v.sort = L[k].sort
 | x :: L, n, 0, _, _ => by
  refine ⟨.mk 1 (qa1 (qa4 N n)) x.sort [], by rw [qbs, List.map_cons]; rfl, ?_, rfl⟩;rw [qbs, List.getElem_cons_zero, getS, if_pos rfl]
 | x :: L, n, k + 1, h, hk => by
  obtain ⟨h1, h2⟩ := List.nodup_cons.1 h;have hk' : k < L.length := by simpa using hk
  obtain ⟨v, g1, g2, g3⟩ := qdz (N := N) (n := qa4 N n + 1) h2 hk';refine ⟨v, by rw [qbs, List.map_cons, List.getElem?_cons_succ]; exact g1, ?_, g3⟩;rw [qbs, List.getElem_cons_succ, getS, if_neg (fun e => h1 (by
   have e2 : x = L[k] := e;rw [e2]; exact List.getElem_mem hk'))]
  exact g2
theorem qj8 {l : List Tm} (h : l.Nodup) {i j : Nat} {v : Tm} (hi : l[i]? = some v) (hj : l[j]? = some v) : i = j := by
 obtain ⟨h1, e1⟩ := List.getElem?_eq_some_iff.1 hi;obtain ⟨h2, e2⟩ := List.getElem?_eq_some_iff.1 hj;rcases Nat.lt_trichotomy i j with k | k | k
 ·exact absurd (e1.trans e2.symm) (List.pairwise_iff_getElem.1 h i j h1 h2 k)
 ·exact k
 ·exact absurd (e2.trans e1.symm) (List.pairwise_iff_getElem.1 h j i h2 h1 k)
theorem qft {t : Tm} : InV (fun x => x ∈ varsOf t) t := fun _ hy hk => qfu.2 ⟨hy, hk⟩
theorem qf8 (t : Tm) : (varsOf t).Nodup := asc_nodup (Tm.set_asc _)
theorem qdn {t : Tm} (h : t.valid = 0) {x : Tm} (hx : x ∈ varsOf t) : x.kind = 1 ∧ x.kids = [] := ⟨(qfu.1 hx).2, (qc4 h x hx).1⟩
def newV (u t : Tm) : List Tm := (qco u t).map Prod.snd
theorem qg4 {t u : Tm} (hu : u.valid = 0) (ht : t.valid = 0) : RenTab (qco u t) (varsOf u) := by
 have hnd := qf8 u;have hl := qcp u;have su := qak hu;have st := qak ht;refine ⟨fun x hx => qdn hu hx, fun x hx => ?_, fun x hx y hy e => ?_⟩
 ·obtain ⟨i, hi, rfl⟩ := List.getElem_of_mem hx;obtain ⟨v, g0, g1, g2⟩ := qdz (N := qf9 u t) (n := 0) hnd hi;have hm : v ∈ newV u t := List.mem_of_getElem? g0;have g1' : getS (qco u t) (varsOf u)[i] = v := g1;rw [g1'];obtain ⟨F, q1, q2, q3, q4, q5⟩ := qf4 hm;have hN : (qf9 u t).length ≤ 800 := by
   unfold qf9;rw [List.length_map];have k1 := Tm.set_length (varsL [u, t]);have k2 := qe2 [u, t];simp only [Tm.sizes] at k2;omega
  have hF : F < 18446744073709551616 := by
   have h1 := qhn (qf9 u t) (varsOf u) 0;have h2 : (varsOf u).length * ((qf9 u t).length + 1) ≤ 400 * 801 := Nat.mul_le_mul (by omega) (by omega);have := q1.2;omega
  exact ⟨q2, q3, g2, by rw [q4]; exact qmd hF⟩
 ·obtain ⟨i, hi, rfl⟩ := List.getElem_of_mem hx;obtain ⟨j, hj, rfl⟩ := List.getElem_of_mem hy;obtain ⟨v, g0, g1, -⟩ := qdz (N := qf9 u t) (n := 0) hnd hi;obtain ⟨v', g3, g4, -⟩ := qdz (N := qf9 u t) (n := 0) hnd hj;have e' : v = v' := by rw [← g1, ← g4]; exact e
  subst e';have := qj8 (qee (varsOf u) 0) g0 g3;subst this; rfl
def apY (u t : Tm) : Tm := u.rap (qco u t)
theorem apY_put {u t : Tm} (hu : u.valid = 0) : apY u t = u.put (qco u t) :=
 rap_put (fun _ hb => (qdn hu (qep hb).1).1) u (check_valid hu)
theorem apY_ren {u t : Tm} (hu : u.valid = 0) (ht : t.valid = 0) : apY u t = u.ren (fT (qco u t)) := by
 rw [apY_put hu];exact (qg4 hu ht).put (check_valid hu) qft
theorem qhp {u t : Tm} (hu : u.valid = 0) (ht : t.valid = 0) : (apY u t).valid = 0 := by
 rw [apY_ren hu ht];exact (qe3 (qg4 hu ht).renV (check_valid hu) qft).2 hu
theorem qf5 {N : List ByteArray} : ∀ (L : List Tm) (n : Nat), (qbs N L n).map Prod.fst = L
 | [], _ => rfl
 | x :: L, n => by rw [qbs, List.map_cons, qf5 L]
theorem qfy {P : List Bd} {f : Bd → Tm} (h : (P.map f).Nodup) {a b : Bd} (ha : a ∈ P) (hb : b ∈ P) (e : f a = f b) : a = b := by
 obtain ⟨i, hi, rfl⟩ := List.getElem_of_mem ha;obtain ⟨j, hj, rfl⟩ := List.getElem_of_mem hb;have h1 : (P.map f)[i]? = some (f P[i]) := by rw [List.getElem?_map, List.getElem?_eq_getElem hi]; rfl
 have h2 : (P.map f)[j]? = some (f P[i]) := by rw [List.getElem?_map, List.getElem?_eq_getElem hj, e]; rfl
 have := qj8 h h1 h2;subst this; rfl
theorem qjq {t : Tm} (h : t.valid = 0) : ∀ x ∈ varsOf t, x.valid = 0 := fun x hx => by
 obtain ⟨h1, h2⟩ := qdn h hx;have hc := check_all t (check_valid h) x (qfu.1 hx).1;refine qa6.2 ⟨hc, ?_, ?_⟩
 ·rw [qhy, h2];exact (by decide : 1 + 0 ≤ 400)
 ·rw [qg1 ⟨h1, h2⟩, Tm.depth];simp [Tm.depths]
theorem apart_one {t : Tm} (h : t.valid = 0) : OneB (qco t t) := by
 have hv := qjq h;have k1 : ((qco t t).map Prod.fst).Nodup := by
  show ((qbs _ _ _).map Prod.fst).Nodup;rw [qf5]; exact qf8 t
 have k2 : ((qco t t).map Prod.snd).Nodup := qee _ _;refine ⟨fun b hb => ?_, fun a ha b hb => ⟨fun e => by rw [qfy k1 ha hb e], fun e => by rw [qfy k2 ha hb e]⟩⟩;obtain ⟨h1, h2, h3, h4⟩ := qep hb;have hg : getS (qco t t) b.1 = b.2 := by
  rcases qbv b.1 (qco t t) with ⟨c, hc, e1, e2⟩ | ⟨-, e2⟩
  ·rw [e2, qfy k1 hc hb e1]
  ·exact absurd rfl (e2 b hb)
 have hT := qg4 h h;have hr := hT.ren h1;rw [hg] at hr;have hvv := hv b.1 h1;refine ⟨(qdn h h1).1, h2, hvv, ?_, h4.symm⟩;rw [← hr];refine (qe3 hT.renV (check_valid hvv) ?_).2 hvv;intro y hy hk;obtain ⟨e1, e2⟩ := qdn h h1;have e3 : b.1 = .mk 1 b.1.name b.1.sort [] := qg1 ⟨e1, e2⟩;rw [e3, Tm.all, Tm.alls] at hy;rcases List.mem_cons.1 hy with rfl | hy
 ·rw [← e3]; exact h1
 ·cases hy
theorem qjj {t : Tm} (h : t.valid = 0) : (t.vrt (apY t t) []).2 = true := by
 refine (qix h (qhp h h)).2 ⟨qco t t, apart_one h, fun x hx hk => ?_, (apY_put h).symm⟩;have hxv : x ∈ varsOf t := qft x hx hk;have : x ∈ (qco t t).map Prod.fst := by
  show x ∈ (qbs _ _ _).map Prod.fst;rw [qf5]; exact hxv
 obtain ⟨b, hb, e⟩ := List.mem_map.1 this;exact qa3.2 ⟨b, hb, e⟩
end Go.Proofs.YtpjmdilpldaapaaGreatDoor
