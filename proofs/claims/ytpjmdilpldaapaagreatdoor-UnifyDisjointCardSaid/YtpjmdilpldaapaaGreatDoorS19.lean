/- Uaw0, Uavoid (joined by shake.py). -/
import Derived.Test.YtpjmdilpldaapaaGreatDoorS15
import Derived.Test.YtpjmdilpldaapaaGreatDoorS18
namespace Go.Proofs.YtpjmdilpldaapaaGreatDoor
open Go.RowKit Go.Sort
def qX : Tm := .mk 1 ⟨#[120]⟩ 0 []
def qY : Tm := .mk 1 ⟨#[121]⟩ 0 []
def qN : Tm := .mk 1 ⟨#[121]⟩ 2 []
def qA : Tm := .mk 2 ⟨#[97]⟩ 0 []
def qB : Tm := .mk 2 ⟨#[98]⟩ 0 []
def qXn : Tm := .mk 1 ⟨#[120]⟩ 2 []
def qBk : Tm := .mk 2 ⟨#[98]⟩ 3 []
def qP : Tm := .mk 2 ⟨#[97]⟩ 2 []
def qQ : Tm := .mk 2 ⟨#[99]⟩ 2 []
def qFXY : Tm := .mk 3 ⟨#[102]⟩ 0 [qX, qY]
def qFYA : Tm := .mk 3 ⟨#[102]⟩ 0 [qY, qA]
def qFX : Tm := .mk 3 ⟨#[102]⟩ 0 [qX]
def qG : Tm := .mk 3 ⟨#[103]⟩ 0 []
def qdn : Tm := .mk 3 ⟨#[102]⟩ 0 [qP, qB, qP]
def qc7 : Tm := .mk 3 ⟨#[102]⟩ 0 [qQ, qG, qQ]
def qG0 : Tm := .mk 1 ⟨#[103, 48]⟩ 2 []
def qG1 : Tm := .mk 1 ⟨#[103, 49]⟩ 0 []
def qFG : Tm := .mk 3 ⟨#[102]⟩ 0 [qG0, qG1, qG0]
def qS1 : List Bd := [(qX, qA), (qY, qA)]
def qS2 : List Bd := [(qY, qX)]
def qS3 : List Bd := [(qX, qN)]
theorem aw_v1 : qau qFXY qFYA = 0 := by decide
theorem aw_v2 : qau qX qY = 0 := by decide
theorem aw_v3 : qau qX qN = 0 := by decide
theorem aw_v4 : qau qXn qBk = 0 := by decide
theorem aw_v5 : qau qX qFX = 0 := by decide
theorem aw_v6 : qau qdn qc7 = 0 := by decide
theorem aw_r1 : runU 10 [(qFXY, qFYA)] [] = some (0, [(qY, qX), (qX, qA)].map fun b => (b.1, b.2.put [(qX, qA)])) := by decide
theorem aw_r2 : runU 10 [(qX, qY)] [] = some (0, [(qY, qX)]) := by decide
theorem aw_r3 : runU 10 [(qX, qN)] [] = some (0, [(qX, qN)]) := by decide
theorem aw_r4 : runU 10 [(qXn, qBk)] [] = some (11, []) := by decide
theorem aw_r5 : runU 10 [(qX, qFX)] [] = some (12, []) := by decide
theorem aw_s1 : (qcb (0, [(qY, qX), (qX, qA)].map fun b => (b.1, b.2.put [(qX, qA)]))).1 = qS1 := by decide
theorem aw_s2 : (qcb (0, [(qY, qX)])).1 = qS2 := by decide
theorem aw_s3 : (qcb (0, [(qX, qN)])).1 = qS3 := by decide
theorem gname0 : qaz 0 = ⟨#[103, 48]⟩ := by
 unfold qaz; rw [Lib.decDigits_one (by decide)]; rfl
theorem gname1 : qaz 1 = ⟨#[103, 49]⟩ := by
 unfold qaz; rw [Lib.decDigits_one (by decide)]; rfl
theorem qhh : genR qdn qc7 = (qFG, 0) := by
 have h : genE qdn qc7 = .mk 3 ⟨#[102]⟩ 0 [.mk 1 (qaz 0) 2 [], .mk 1 (qaz 1) 0 [], .mk 1 (qaz 0) 2 []] := by rfl
 unfold genR;rw [if_neg (by rw [aw_v6]; decide), h, gname0, gname1];rfl
theorem qd2 : (qgq qdn qc7).length = 0 := by decide
theorem qft (x : ByteArray) (so : Int) (w : World) :
  Calls Tryz.prog 33 #[.string x, .int .i64 so] w fun e w' => e = .returned ((Tm.mk 1 x so []).val none 0) ∧ Lay w.heap.size w w' := by
 simp only [Tm.val, Tm.kind, Tm.name, Tm.sort, Tm.kids];go_enter Tryz.func33, Tryz.ntmps33
 go_wp2_with fail
 refine bodyPost_ret (v := .agg #[.int .i64 1, .string x, .int .i64 so, .slice none 0 0]) ?_ rfl ?_
 ·simp [results, Tryz.results33, go_sem]
 exact ⟨rfl, (Lay.refl _ _).alloc (Nat.le_refl _) _⟩
theorem qmu {w : World} {P : Nat → Prop} {b : Nat} {T : TypeId} (its : List IB) (hB : w.heap[b]? = some (.cells (bCells its).toArray T (0, 0))) (hb : P b) (hr : ∀ x ∈ its, RepP w P x.1.1 x.1.2.1 x.1.2.2 ∧ RepP w P x.2.1 x.2.2.1 x.2.2.2) (hlen : its.length ≤ 1000) :
  RepB w P (its.map IB.bd) (some ⟨b, 0, none⟩) its.length := by
 refine ⟨by simp, by unfold maxLen; omega, .inr ⟨b, 0, rfl, hb, ?_⟩⟩;rw [← qfn];refine qal.of_its (bits its) b 0 (fun j u hj => ?_) (fun y hy => ?_)
 ·unfold World.cell?;rw [hB];unfold bCells;simpa using hj
 ·obtain ⟨x, hx, e⟩ := qgj hy;rcases e with rfl | rfl
  ·exact (hr x hx).1
  ·exact (hr x hx).2
theorem qi7 {Z Z1 : World} (its : List It) {T : TypeId} (h : Z1 = Z.alloc (.cells (itCells its).toArray T)) (hlen : its.length ≤ 1000) (hr : ∀ x ∈ its, RepT Z Z.heap.size x.1 x.2.1 x.2.2) :
  RepS Z1 (fun b => b < Z1.heap.size) (its.map (·.1)) (some ⟨Z.heap.size, 0, none⟩) its.length ∧ Below Z.heap.size Z Z1 := by
 have hb : Below Z.heap.size Z Z1 := by rw [h]; exact qah (Nat.le_refl _) _
 refine ⟨qmt its (by rw [h]; exact heap_alloc_new _ _) (by rw [h]; simp) (fun x hx => (hr x hx).go hb hb.size) hlen, hb⟩
theorem qie {Z Z1 : World} (its : List IB) {T : TypeId} (h : Z1 = Z.alloc (.cells (bCells its).toArray T)) (hlen : its.length ≤ 1000) (hr : ∀ x ∈ its, RepT Z Z.heap.size x.1.1 x.1.2.1 x.1.2.2 ∧ RepT Z Z.heap.size x.2.1 x.2.2.1 x.2.2.2) :
  RepB Z1 (fun b => b < Z1.heap.size) (its.map IB.bd) (some ⟨Z.heap.size, 0, none⟩) its.length ∧ Below Z.heap.size Z Z1 := by
 have hb : Below Z.heap.size Z Z1 := by rw [h]; exact qah (Nat.le_refl _) _
 refine ⟨qmu its (by rw [h]; exact heap_alloc_new _ _) (by rw [h]; simp) (fun x hx => ⟨(hr x hx).1.go hb hb.size, (hr x hx).2.go hb hb.size⟩) hlen, hb⟩
set_option maxHeartbeats 1000000 in
theorem qgn (x : ByteArray) (w : World) (hx : x.size ≤ maxLen) :
  Calls Tryz.prog 35 #[.string x, .slice none 0 0] w fun e w' => ∃ A' c', e = .returned ((Tm.mk 3 x 0 []).val A' c') ∧ RepP w' (fun b => b < w'.heap.size) (.mk 3 x 0 []) A' c' ∧ Below w.heap.size w w' := by
 obtain ⟨V, hV⟩ : ∃ V, V = (w.alloc (.cells #[.int .i64 0, .string ⟨#[]⟩, .int .i64 0, .slice none 0 0] 24)).alloc (.cells #[] 24) := ⟨_, rfl⟩;have hb1 : Below w.heap.size w V := by rw [hV]; exact (qah (Nat.le_refl _) _).alloc (by simp) _
 have hown : V.ownsRow (w.heap.size + 1) 24 4 (.slice (some ⟨w.heap.size + 1, 0, none⟩) 0 0) 0 [] := by
  have h := World.ownsRow_made (base := w.heap.size + 1) (e := 24) (size := 4) (w.alloc (.cells #[.int .i64 0, .string ⟨#[]⟩, .int .i64 0, .slice none 0 0] 24)) #[] 0 (by simp) (by simp [maxLen]) rfl;rw [World.size_alloc] at h;rw [hV];exact h
 have hap := fun ty => qee hown none 0 ty;have hbx : V.heap[w.heap.size]? = some (.cells #[.int .i64 0, .string ⟨#[]⟩, .int .i64 0, .slice none 0 0] 24 (0, 0)) := by
  rw [hV, Below.heap_alloc _ _ _ (by simp)]; exact heap_alloc_new _ _
 obtain ⟨r0, r1, r2, r3, rf⟩ := qad hbx;rw [hV] at hap r0 r1 r2 r3 rf;clear hV hb1 hbx hown;simp only [Tm.val, Tm.kind, Tm.name, Tm.sort, Tm.kids, List.length_nil];go_enter Tryz.func35, Tryz.ntmps35
 go_wp2_with (at_builtin; refine qag rfl _ _ rfl rfl rfl hap ?_)
 refine bodyPost_ret (v := .agg #[.int .i64 3, .string x, .int .i64 0, .slice (some ⟨w.heap.size + 1, 0, none⟩) 0 0]) ?_ rfl ?_
 ·simp [results, Tryz.results35, go_sem]
 refine ⟨some ⟨w.heap.size + 1, 0, none⟩, 0, rfl, ?_, ?_⟩
 ·rw [qbf];exact ⟨hx, Nat.le_refl _, Nat.zero_le _, .inl rfl⟩
 ·exact (qah (Nat.le_refl _) _).alloc (by simp) _
inductive Fact where
 | box (B : Nat) (t : Tm) (A : Option Addr) (c : Nat)
 | term (t : Tm) (A : Option Addr) (c : Nat)
 | terms (l : List Tm) (A : Option Addr) (c : Nat)
 | binds (l : List Bd) (A : Option Addr) (c : Nat)
def Fact.holds (V : World) : Fact → Prop
 | .box B t A c => BoxT V B t A c
 | .term t A c => RepT V V.heap.size t A c
 | .terms l A c => RepS V (fun b => b < V.heap.size) l A c
 | .binds l A c => RepB V (fun b => b < V.heap.size) l A c
theorem Fact.below {V V' : World} (hb : Below V.heap.size V V') : ∀ f : Fact, f.holds V → f.holds V'
 | .box _ _ _ _, h => BoxT.below h hb
 | .term _ _ _, h => RepP.mono (fun b (hk : b < V.heap.size) => Nat.lt_of_lt_of_le hk hb.size) (fun _ hp => hb.cell hp) _ _ _ h
 | .terms _ _ _, h => RepS.mono (fun b (hk : b < V.heap.size) => Nat.lt_of_lt_of_le hk hb.size) (fun _ hp => hb.cell hp) h
 | .binds _ _ _, h => RepB.go h hb hb.size
def qae (w : World) : List Fact → World → Prop
 | [], V => Below w.heap.size w V
 | f :: r, V => f.holds V ∧ qae w r V
theorem qae.bel {w V : World} : ∀ {fs : List Fact}, qae w fs V → Below w.heap.size w V
 | [], h => h
 | _ :: _, h => qae.bel h.2
theorem qae.below {w V V' : World} (hb : Below V.heap.size V V') : ∀ {fs : List Fact}, qae w fs V → qae w fs V'
 | [], h => h.trans (hb.mono (Below.size h))
 | f :: _, h => ⟨f.below hb h.1, qae.below hb h.2⟩
theorem qae.add {w V : World} {fs : List Fact} (f : Fact) (h : qae w fs V) (hf : f.holds V) : qae w (f :: fs) V := ⟨hf, h⟩
theorem qae.boxed {w V : World} {fs : List Fact} (h : qae w fs V) {t : Tm} {A : Option Addr} {c : Nat} (hr : RepT V V.heap.size t A c) : qae w (.box V.heap.size t A c :: fs) (V.alloc (qa4 t A c)) :=
 ⟨BoxT.new hr, h.below (qah (Nat.le_refl _) _)⟩
theorem qae.slice {w V V1 : World} {fs : List Fact} (h : qae w fs V) (its : List It) {T : TypeId} (hV : V1 = V.alloc (.cells (itCells its).toArray T)) (hlen : its.length ≤ 1000) (hr : ∀ x ∈ its, RepT V V.heap.size x.1 x.2.1 x.2.2) :
  qae w (.terms (its.map (·.1)) (some ⟨V.heap.size, 0, none⟩) its.length :: fs) V1 :=
 ⟨(qi7 its hV hlen hr).1, h.below (qi7 its hV hlen hr).2⟩
theorem qae.bslice {w V V1 : World} {fs : List Fact} (h : qae w fs V) (its : List IB) {T : TypeId} (hV : V1 = V.alloc (.cells (bCells its).toArray T)) (hlen : its.length ≤ 1000) (hr : ∀ x ∈ its, RepT V V.heap.size x.1.1 x.1.2.1 x.1.2.2 ∧ RepT V V.heap.size x.2.1 x.2.2.1 x.2.2.2) :
  qae w (.binds (its.map IB.bd) (some ⟨V.heap.size, 0, none⟩) its.length :: fs) V1 :=
 ⟨(qie its hV hlen hr).1, h.below (qie its hV hlen hr).2⟩
theorem qae.boxes2 {w V : World} {fs : List Fact} (h : qae w fs V) {t1 t2 : Tm} {A1 A2 : Option Addr} {c1 c2 : Nat} (h1 : RepT V V.heap.size t1 A1 c1) (h2 : RepT V V.heap.size t2 A2 c2) :
  qae w (.box (V.heap.size + 1) t2 A2 c2 :: .box V.heap.size t1 A1 c1 :: fs) ((V.alloc (qa4 t1 A1 c1)).alloc (qa4 t2 A2 c2)) := by
 have k := (h.boxed h1).boxed (t := t2) (A := A2) (c := c2) (h2.go (qah (Nat.le_refl _) _) (by simp));rw [World.size_alloc] at k;exact k
theorem qae.boxes3 {w V : World} {fs : List Fact} (h : qae w fs V) {t1 t2 t3 : Tm} {A1 A2 A3 : Option Addr} {c1 c2 c3 : Nat} (h1 : RepT V V.heap.size t1 A1 c1) (h2 : RepT V V.heap.size t2 A2 c2) (h3 : RepT V V.heap.size t3 A3 c3) :
  qae w (.box (V.heap.size + 1 + 1) t3 A3 c3 :: .box (V.heap.size + 1) t2 A2 c2 :: .box V.heap.size t1 A1 c1 :: fs) (((V.alloc (qa4 t1 A1 c1)).alloc (qa4 t2 A2 c2)).alloc (qa4 t3 A3 c3)) := by
 have k := (h.boxes2 h1 h2).boxed (t := t3) (A := A3) (c := c3) ((h3.go (qah (Nat.le_refl _) (qa4 t1 A1 c1)) (by simp)).go (qah (Nat.le_refl _) _) (by simp));rw [World.size_alloc, World.size_alloc] at k;exact k
theorem qae.rebase {w V : World} : ∀ {fs : List Fact}, qae w fs V → qae V fs V
 | [], _ => Below.refl _ _
 | _ :: _, h => ⟨h.1, qae.rebase h.2⟩
theorem qae.unbase {w D V : World} (hw : Below w.heap.size w D) : ∀ {fs : List Fact}, qae D fs V → qae w fs V
 | [], h => hw.trans (Below.mono h hw.size)
 | _ :: _, h => ⟨h.1, qae.unbase hw h.2⟩
theorem qav (V : World) (B : Nat) (k s : Int) (n : ByteArray) (h : n.size ≤ maxLen) : RepT V B (.mk k n s []) none 0 := by
 rw [qb3]; exact ⟨h, Nat.zero_le _, Nat.zero_le _, .inl rfl⟩
theorem aw_s4 : (qcb (11, [])).1 = [] := by decide
theorem aw_s5 : (qcb (12, [])).1 = [] := by decide
theorem qll : qkc qS1 := fun b hb => by
 simp only [qS1, List.mem_cons, List.not_mem_nil, or_false] at hb;rcases hb with rfl | rfl <;> exact ⟨by decide, by decide⟩
theorem qlk : qkc qS2 := fun b hb => by
 simp only [qS2, List.mem_cons, List.not_mem_nil, or_false] at hb;subst hb; exact ⟨by decide, by decide⟩
theorem qlj : qkc qS3 := fun b hb => by
 simp only [qS3, List.mem_cons, List.not_mem_nil, or_false] at hb;subst hb; exact ⟨by decide, by decide⟩
theorem qnd {W : World} {B : Nat} {a b c d x y z u : Value} {T : TypeId} (h : W.heap[B]? = some (.cells #[a, b, c, d] T (0, 0))) :
  ((((W.setCell ⟨B, 0, none⟩ x).setCell ⟨B, 1, none⟩ y).setCell ⟨B, 2, none⟩ z).setCell ⟨B, 3, none⟩ u).heap[B]? = some (.cells #[x, y, z, u] T (0, 0)) := by
 simp [World.setCell, Array.getElem?_modify, h]
theorem qeq {W : World} {B : Nat} {x y z u : Value} {q : Addr} (hq : q.block ≠ B) :
  ((((W.setCell ⟨B, 0, none⟩ x).setCell ⟨B, 1, none⟩ y).setCell ⟨B, 2, none⟩ z).setCell ⟨B, 3, none⟩ u).cell? q = W.cell? q := by
 have hne : ∀ o, (⟨B, o, none⟩ : Addr) ≠ q := fun o e => hq (by rw [← e]);rw [World.cell?_setCell_other _ _ _ _ (hne _), World.cell?_setCell_other _ _ _ _ (hne _), World.cell?_setCell_other _ _ _ _ (hne _), World.cell?_setCell_other _ _ _ _ (hne _)]
theorem qex {w : World} {bx b off : Nat} {k : Int} {T : TypeId} (hz : w.heap[bx]? = some (.cells #[.int .i64 0, .string ⟨#[]⟩, .int .i64 0, .slice none 0 0] T (0, 0))) (h : w.cell? ⟨b, off, none⟩ = some (.int .i64 k)) (hk : k ≠ 0) : b ≠ bx := by
 rintro rfl;unfold World.cell? at h;rw [hz] at h
 match off with
 | 0 => simp at h; omega
 | 1 => simp at h
 | 2 => simp at h; omega
 | 3 => simp at h
 | n + 4 => simp at h
theorem qdo {t : Tm} (h : t.check = 0) : t.kind ≠ 0 := by
 obtain ⟨k, n, s, l⟩ := t;rw [Tm.check] at h;show k ≠ 0
 split at h
 ·omega
 ·split at h
  ·omega
  ·omega
theorem qfz {t : Tm} {r : List Tm} (h : Tm.checks (t :: r) = 0) : t.check = 0 ∧ Tm.checks r = 0 := by
 rw [Tm.checks] at h
 split at h
 ·rename_i g; exact absurd h g
 ·rename_i g; exact ⟨Classical.byContradiction g, h⟩
mutual
theorem qfv {w : World} {P : Nat → Prop} {bx : Nat} {T : TypeId} (hz : w.heap[bx]? = some (.cells #[.int .i64 0, .string ⟨#[]⟩, .int .i64 0, .slice none 0 0] T (0, 0))) :
  ∀ (t : Tm) (A : Option Addr) (c : Nat), t.check = 0 → RepP w P t A c → RepP w (fun b => P b ∧ b ≠ bx) t A c
 | .mk k n s l, A, c, hc, h => by
  rw [qbf] at h ⊢;obtain ⟨h1, h2, h3, h4⟩ := h;refine ⟨h1, h2, h3, ?_⟩;rcases h4 with h4 | ⟨b, off, e, hb, hl⟩
  ·exact .inl h4
  ·by_cases h0 : l = []
   ·exact .inl h0
   ·have hck : Tm.checks l = 0 := by
     by_cases hk : k = 1 ∨ k = 2
     ·rw [Tm.check, if_pos hk] at hc
      split at hc
      ·omega
      ·rename_i g; exact absurd (Classical.byContradiction fun e => g (.inr (.inr e))) h0
     ·rw [Tm.check, if_neg hk] at hc
      split at hc
      ·split at hc
       ·omega
       ·split at hc
        ·omega
        ·split at hc
         ·omega
         ·exact hc
      ·omega
    refine .inr ⟨b, off, e, ⟨hb, ?_⟩, qdy hz l b off hck hl⟩;cases l with
    | nil => exact absurd rfl h0
    | cons t r =>
     rw [qal] at hl;obtain ⟨⟨_, _, g0, _⟩, _⟩ := hl;exact qex hz g0 (qdo (qfz hck).1)
theorem qdy {w : World} {P : Nat → Prop} {bx : Nat} {T : TypeId} (hz : w.heap[bx]? = some (.cells #[.int .i64 0, .string ⟨#[]⟩, .int .i64 0, .slice none 0 0] T (0, 0))) :
  ∀ (l : List Tm) (b off : Nat), Tm.checks l = 0 → qal w P l b off → qal w (fun b => P b ∧ b ≠ bx) l b off
 | [], _, _, _, _ => by rw [qal]; trivial
 | t :: r, b, off, hc, h => by
  obtain ⟨c1, c2⟩ := qfz hc;rw [qal] at h ⊢;obtain ⟨⟨A, c, g0, g1, g2, g3, g4⟩, hr⟩ := h;exact ⟨⟨A, c, g0, g1, g2, g3, qfv hz t A c c1 g4⟩, qdy hz r b (off + 4) c2 hr⟩
end
theorem qf7 : ∀ {l : List Bd}, (∀ b ∈ l, b.1.check = 0 ∧ b.2.check = 0) → Tm.checks (flat l) = 0
 | [], _ => rfl
 | b :: r, h => by
  obtain ⟨h1, h2⟩ := h b (List.mem_cons_self ..);rw [flat, Tm.checks, if_neg (by simpa using h1), Tm.checks, if_neg (by simpa using h2)];exact qf7 fun c hc => h c (List.mem_cons_of_mem _ hc)
theorem qko {w : World} {P : Nat → Prop} {bx : Nat} {T : TypeId} (hz : w.heap[bx]? = some (.cells #[.int .i64 0, .string ⟨#[]⟩, .int .i64 0, .slice none 0 0] T (0, 0))) {l : List Bd} (hl : ∀ b ∈ l, b.1.check = 0 ∧ b.2.check = 0) {A : Option Addr} {c : Nat}
  (h : RepB w P l A c) : RepB w (fun b => P b ∧ b ≠ bx) l A c := by
 obtain ⟨h1, h2, h3⟩ := h;refine ⟨h1, h2, ?_⟩;rcases h3 with h3 | ⟨b, off, e, hb, hlp⟩
 ·exact .inl h3
 ·cases l with
  | nil => exact .inl rfl
  | cons x r =>
   have hf := qf7 hl;refine .inr ⟨b, off, e, ⟨hb, ?_⟩, qdy hz _ b off hf hlp⟩;rw [flat, qal] at hlp;obtain ⟨⟨_, _, g0, _⟩, _⟩ := hlp;exact qex hz g0 (qdo (hl x (List.mem_cons_self ..)).1)
def Fact.chk (bx : Nat) : Fact → Prop
 | .box B t _ _ => B ≠ bx ∧ t.check = 0
 | .term t _ _ => t.check = 0
 | .terms l _ _ => Tm.checks l = 0
 | .binds l _ _ => ∀ b ∈ l, b.1.check = 0 ∧ b.2.check = 0
def qew (bx : Nat) : List Fact → Prop
 | [] => True
 | f :: r => f.chk bx ∧ qew bx r
section
variable {V : World} {bx : Nat} {T : TypeId} {x y z u : Value}
theorem qd8 : ((((V.setCell ⟨bx, 0, none⟩ x).setCell ⟨bx, 1, none⟩ y).setCell ⟨bx, 2, none⟩ z).setCell ⟨bx, 3, none⟩ u).heap.size = V.heap.size := by simp [World.setCell]
theorem Fact.put4 (hz : V.heap[bx]? = some (.cells #[.int .i64 0, .string ⟨#[]⟩, .int .i64 0, .slice none 0 0] T (0, 0))) :
  ∀ f : Fact, f.chk bx → f.holds V → f.holds ((((V.setCell ⟨bx, 0, none⟩ x).setCell ⟨bx, 1, none⟩ y).setCell ⟨bx, 2, none⟩ z).setCell ⟨bx, 3, none⟩ u)
 | .box B t A c, hc, h => by
  refine ⟨?_, ?_⟩
  ·iterate 4 rw [Below.heap_setCell _ _ _ _ hc.1]
   exact h.1
  ·exact RepP.mono (fun b ⟨h, _⟩ => by rw [qd8]; exact h) (fun q ⟨_, h⟩ => qeq h) _ _ _ (qfv hz t A c hc.2 h.2)
 | .term t A c, hc, h => RepP.mono (fun b ⟨h, _⟩ => by rw [qd8]; exact h) (fun q ⟨_, h⟩ => qeq h) _ _ _ (qfv hz t A c hc h)
 | .terms l A c, hc, h => by
  obtain ⟨h1, h2, h3⟩ := h;refine ⟨h1, h2, ?_⟩;rcases h3 with h3 | ⟨b, off, e, hb, hl⟩
  ·exact .inl h3
  ·cases l with
   | nil => exact .inl rfl
   | cons t r =>
    have hlp := hl;rw [qal] at hlp;obtain ⟨⟨_, _, g0, _⟩, _⟩ := hlp;exact .inr ⟨b, off, e, by rw [qd8]; exact hb, qal.mono (fun b ⟨h, _⟩ => by rw [qd8]; exact h) (fun q ⟨_, h⟩ => qeq h) _ _ _ ⟨hb, qex hz g0 (qdo (qfz hc).1)⟩ (qdy hz _ b off hc hl)⟩
 | .binds l A c, hc, h => RepB.mono (fun b ⟨h, _⟩ => by rw [qd8]; exact h) (fun q ⟨_, h⟩ => qeq h) (qko hz hc h)
theorem qae.put4 {w : World} (hz : V.heap[bx]? = some (.cells #[.int .i64 0, .string ⟨#[]⟩, .int .i64 0, .slice none 0 0] T (0, 0))) (hb : w.heap.size ≤ bx) : ∀ {fs : List Fact}, qew bx fs → qae w fs V → qae w fs ((((V.setCell ⟨bx, 0, none⟩ x).setCell ⟨bx, 1, none⟩ y).setCell ⟨bx, 2, none⟩ z).setCell ⟨bx, 3, none⟩ u)
 | [], _, h => by
  iterate 4 refine Below.setCell ?_ (by exact hb) _
  exact h
 | f :: _, hc, h => ⟨f.put4 hz hc.1 h.1, qae.put4 hz hb hc.2 h.2⟩
end
theorem qae.stored {w V : World} {bx : Nat} {t : Tm} {A : Option Addr} {c : Nat} (hz : V.heap[bx]? = some (.cells #[.int .i64 0, .string ⟨#[]⟩, .int .i64 0, .slice none 0 0] 24 (0, 0))) (hb : w.heap.size ≤ bx) {fs : List Fact} (hc : qew bx fs) (h : qae w fs V) (ht : t.check = 0) (hr : RepT V V.heap.size t A c) :
  qae w (.box bx t A c :: fs) ((((V.setCell ⟨bx, 0, none⟩ (.int .i64 t.kind)).setCell ⟨bx, 1, none⟩ (.string t.name)).setCell ⟨bx, 2, none⟩ (.int .i64 t.sort)).setCell ⟨bx, 3, none⟩ (.slice A t.kids.length c)) :=
 ⟨⟨qnd hz, Fact.put4 hz (.term t A c) ht hr⟩, qae.put4 hz hb hc h⟩
end Go.Proofs.YtpjmdilpldaapaaGreatDoor
