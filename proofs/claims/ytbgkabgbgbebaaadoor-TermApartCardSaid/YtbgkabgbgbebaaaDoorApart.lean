/- What term.At and term.Subterms return is new memory that can be spoiled; the document's Spoil and Parts. -/
import Derived.Test.YtbgkabgbgbebaaaDoorReplace
import Derived.Test.YtbgkabgbgbebaaaDoorSubterms
import Derived.Laws.BytesArg
import Derived.Deep.Slices
namespace Go.Proofs.YtbgkabgbgbebaaaDoor
open Go.RowKit

set_option maxHeartbeats 2000000 in
set_option maxRecDepth 100000 in
theorem at_sk (t : Tm) (A : Option Addr) (cap : Nat) (p : List Int) (Ap : Option Addr) (cp : Nat) (w : World) (ht : t.size ≤ 1000000) (hp : p.length ≤ 1000000) (hrep : RepT w w.heap.size t A cap) (hrp : RepI w (fun b => b < w.heap.size) p Ap cp) :
    Calls Tryd.prog 23 #[t.val A cap, .slice Ap p.length cp] w (AtOfS w (Tm.atP p t)) := by
  have hst := AtRel.start hrep
  simp only [boxOf, Tm.kind, Tm.name, Tm.sort, Tm.kids, List.length_nil] at hst
  have HST := Lib.hid hst; clear hst hrep
  have HRP := Lib.hid hrp; clear hrp
  have HT := Lib.hid ht; clear ht
  simp only [Tm.val]
  go_enter Tryd.func23, Tryd.ntmps23
  go_wp2_with fail
  go_loopw [10] (fun i wr => ∃ (k : Nat) (u : Tm) (A' : Option Addr) (c' : Nat), k ≤ p.length ∧ i = .int .i64 k ∧ Hid (AtRel w u A' c' wr) ∧ Hid (Tm.atP p t = Tm.atP (p.drop k) u) ∧ Hid (u.size ≤ 1000000)) (fun i _ => p.length - (intOf i).toNat)
  case atStart => exact ⟨0, t, A, cap, Nat.zero_le _, rfl, HST.out, rfl, HT⟩
  case round =>
    obtain ⟨k, u, A', c', hk, rfl, HR, HE, HU⟩ := hrel
    clear HST HT
    obtain ⟨a0, a1, a2, a3, a4⟩ := box_at HR.out.box
    obtain ⟨r0, r1, r2, r3, r4⟩ := box_at HR.out.out
    simp only [Tm.kind, Tm.name, Tm.sort, Tm.kids, List.length_nil] at r0 r1 r2 r3
    have i1 : (0 : Int) ≤ (k : Int) := Int.natCast_nonneg _
    by_cases hlt : k < p.length
    · have i2 : (k : Int) < (p.length : Int) := by omega
      obtain ⟨-, -, hpc⟩ := HRP.out.go HR.out.below (Nat.le_refl _)
      rcases hpc with rfl | ⟨bp, offp, rfl, hbp, hpl⟩
      · simp at hlt
      have hx := hpl k hlt
      have he := Tm.at_drop hlt u
      obtain ⟨x, hxe⟩ : ∃ x, x = p[k] := ⟨_, rfl⟩
      rw [← hxe] at hx he
      clear hxe hpl
      have hl1 : w.heap.size + 1 < wr.heap.size := (Array.getElem?_eq_some_iff.1 HR.out.out).1
      by_cases hx0 : x < 0
      · have hn := Tm.kid_none (t := u) (.inl hx0)
        have hres : Tm.atP p t = none := by rw [HE.out, he, hn]
        have HRES := Lib.hid hres; clear hres hn he
        have d1 : decide (x < 0) = true := decide_eq_true hx0
        go_wp2_with fail
        refine bodyPost_ret (v := .tuple #[.agg #[.int .i64 0, .string ⟨#[]⟩, .int .i64 0, .slice none 0 0], .int .i64 7]) ?_ rfl ?_
        · simp [results, Tryd.results23, go_sem, r0, r1, r2, r3]
        unfold AtOfS
        rw [HRES.out]
        exact ⟨below_set4 HR.out.below (by omega), rfl⟩
      · have d1 : decide (x < 0) = false := decide_eq_false hx0
        by_cases hx1 : (u.kids.length : Int) ≤ x
        · have hn := Tm.kid_none (t := u) (.inr hx1)
          have hres : Tm.atP p t = none := by rw [HE.out, he, hn]
          have HRES := Lib.hid hres; clear hres hn he
          have d2 : decide ((u.kids.length : Int) ≤ x) = true := decide_eq_true hx1
          go_wp2_with fail
          refine bodyPost_ret (v := .tuple #[.agg #[.int .i64 0, .string ⟨#[]⟩, .int .i64 0, .slice none 0 0], .int .i64 7]) ?_ rfl ?_
          · simp [results, Tryd.results23, go_sem, r0, r1, r2, r3]
          unfold AtOfS
          rw [HRES.out]
          exact ⟨below_set4 HR.out.below (by omega), rfl⟩
        · have d2 : decide ((u.kids.length : Int) ≤ x) = false := decide_eq_false hx1
          have hxl : x.toNat < u.kids.length := by omega
          have hn := Tm.kid_some (t := u) (i := x) (by omega) (by omega)
          obtain ⟨-, -, hkids⟩ := HR.out.rep.kids
          rcases hkids with h0 | ⟨bk, off, rfl, hbk, hl⟩
          · rw [h0] at hxl; simp at hxl
          obtain ⟨C, ck, e0, e1, e2, e3, e5⟩ := hl.get x.toNat hxl
          have hvs : u.kids[x.toNat].size ≤ 1000000 := by have := Tm.kid_size (List.getElem_mem hxl); have := HU.out; omega
          rw [hn] at he
          obtain ⟨v, hv⟩ : ∃ v, v = u.kids[x.toNat] := ⟨_, rfl⟩
          rw [← hv] at e0 e1 e2 e3 e5 hvs he
          have hres : Tm.atP p t = Tm.atP (p.drop (k + 1)) v := by rw [HE.out, he]
          have HRES := Lib.hid hres; clear hres hn he hv hl
          have x0 : 0 ≤ x := by omega
          have x1 : x < (u.kids.length : Int) := by omega
          have HVS := Lib.hid hvs; clear hvs
          have HNEW := Lib.hid (HR.out.set e5); clear e5
          have hl2 : bk < wr.heap.size := by have := HR.out.below.size; omega
          go_wp2_with fail
          go_roundw
          case rel => exact ⟨k + 1, v, C, ck, by omega, by go_num, HNEW.out, HRES.out, HVS⟩
          case measure => simp [intOf]; omega
    · obtain rfl : k = p.length := by omega
      have hres : Tm.atP p t = some u := by rw [HE.out, List.drop_length, Tm.atP]
      have HRES := Lib.hid hres; clear hres
      have CL := Lib.hid (clone_sep 1000000 u A' c' wr HU.out (by decide) (HR.out.rep.go (Below.refl _ _) HR.out.below.size))
      simp only [Tm.val] at CL
      go_wp2_with fail
      refine CL.out.mono ?_
      rintro e w1 ⟨A1, c1, fp, rfl, hF1, -, hin1, hb1⟩
      have hr1 := RepF.toP (P := fun b => wr.heap.size ≤ b ∧ b < w1.heap.size) _ _ _ _ hF1 hin1
      have hsk := RepF.toS _ _ _ _ hF1 hin1
      have HSK := Lib.hid hsk; clear hsk hF1 hin1
      have hl1 : w.heap.size + 1 < wr.heap.size := (Array.getElem?_eq_some_iff.1 HR.out.out).1
      have hl2 : w.heap.size + 1 < w1.heap.size := by have := hb1.size; omega
      have hout : w1.heap[w.heap.size + 1]? = some (boxOf (.mk 0 ⟨#[]⟩ 0 []) none 0) := (hb1.block _ hl1).trans HR.out.out
      have hbw := HR.out.below.trans (hb1.mono HR.out.below.size)
      clear r0 r1 r2 r3 r4 a0 a1 a2 a3 a4
      obtain ⟨r0, r1, r2, r3, r4⟩ := box_at hout
      simp only [Tm.kind, Tm.name, Tm.sort, Tm.kids, List.length_nil] at r0 r1 r2 r3
      have HOUT := Lib.hid hout; clear hout
      have HR1 := Lib.hid hr1; clear hr1
      have HBW := Lib.hid hbw; clear hbw
      have HB1 := Lib.hid hb1; clear hb1
      clear CL
      go_wp2_with fail
      refine bodyPost_ret (v := .tuple #[.agg #[.int .i64 u.kind, .string u.name, .int .i64 u.sort, .slice A1 u.kids.length c1], .int .i64 0]) ?_ rfl ?_
      · simp [results, Tryd.results23, go_sem, r0, r1, r2, r3]
      unfold AtOfS
      rw [HRES.out]
      have hws := HR.out.below.size
      refine ⟨below_set4 HBW.out (by omega), A1, c1, rfl, ?_, Sk.keep (by simp [World.setCell]) (by omega) (fun b hb _ => heap_set4_other (by omega)) _ _ HSK.out⟩
      exact RepP.mono (fun b ⟨h1, h2⟩ => ⟨by omega, by simpa [World.setCell] using h2⟩) (fun q ⟨h1, _⟩ => World.cell?_of_block (heap_set4_other (by omega))) _ _ _ HR1.out

def OrderedS (w : World) (base : Nat) (v : Value) (ts : List Tm) (e : Ending) (w' : World) : Prop :=
  ∃ v' its', e = .returned v' ∧ RowT w' base (fun b => w.heap.size ≤ b) v' its' ∧ w.grownBy w' v.ownBlock ∧ v'.ownBlock = v.ownBlock ∧ its'.map (·.1) = Tm.set ts ∧ ∀ x ∈ its', Sk w' w.heap.size x.1 x.2.1
theorem Ordered.sk {w : World} {base : Nat} {v : Value} {e : Ending} {w' : World} (h : Ordered w base v [] e w') : OrderedS w base v [] e w' := by
  obtain ⟨v', its', h1, h2, h3, h4, h5⟩ := h
  refine ⟨v', its', h1, h2, h3, h4, h5, fun x hx => ?_⟩
  have : its' = [] := List.map_eq_nil_iff.1 h5
  subst this
  cases hx
def SetOfS (w : World) (ts : List Tm) (e : Ending) (w' : World) : Prop :=
  ∃ v its, e = .returned v ∧ RowT w' w.heap.size (fun b => w.heap.size ≤ b) v its ∧ Below w.heap.size w w' ∧ its.map (·.1) = Tm.set ts ∧ ∀ x ∈ its, Sk w' w.heap.size x.1 x.2.1
theorem setOf_endS {B0 cb : Nat} {w w1 w2 : World} {v : Value} {its : List It} {l : List Tm} {e : Ending} (hv : RowT w1 (cb + 1) (fun b => b < B0) v its) (hb : Below w.heap.size w w1) (hs : w.heap.size ≤ w1.heap.size) (hcb : w.heap.size ≤ cb)
    (hl : its.map (·.1) = l) (h : OrderedS w1 (cb + 1) v (its.map (·.1)) e w2) : SetOfS w l e w2 := by
  obtain ⟨v', its', rfl, hr, hg, ho, hm, hk⟩ := h
  exact ⟨v', its', rfl, hr.loosen (by omega) (fun b hb => Nat.le_trans hs hb), below_of_grown hb hs hg (fun k hk => by have := (hv.lt k hk).1; omega), by rw [hm, hl], fun x hx => Sk.keep (Nat.le_refl _) hs (fun _ _ _ => rfl) _ _ (hk x hx)⟩

set_option maxHeartbeats 4000000 in
set_option maxRecDepth 100000 in
theorem ordered_sk (w : World) (base g cap n : Nat) (F : Nat → Prop) (its : List It) (hn : n = its.length) (hpos : 0 < n) (hn2 : n ≤ 10000000) (hrow : RowT w base F (.slice (some ⟨g, 0, none⟩) n cap) its) (hsz : ∀ x ∈ its, x.1.size ≤ 1000000) :
    Calls Tryd.prog 55 #[.slice (some ⟨g, 0, none⟩) n cap] w (OrderedS w base (.slice (some ⟨g, 0, none⟩) n cap) (its.map (·.1))) := by
  have hS := sort_any w base g cap n F its hn hpos hn2 hrow hsz
  subst hn
  have HS := Lib.hid hS; clear hS
  go_enter Tryd.func55, Tryd.ntmps55
  go_wp2_with fail
  refine HS.out.mono ?_
  rintro e w1 ⟨rfl, its1, hperm, hle, hrow1, hg1⟩
  have hC := compact_any w1 base g cap its.length F its1 hperm.length_eq.symm hn2 hrow1 (fun x hx => hsz x (hperm.mem_iff.1 hx))
  have HC := Lib.hid hC; clear hC
  go_wp2_with fail
  refine HC.out.mono ?_
  rintro e w2 ⟨v2, rfl, hrow2, hg2, hv2⟩
  have hasc := comp_asc its1 hle
  have hmem : ∀ t, t ∈ (comp its1).map (·.1) ↔ t ∈ its.map (·.1) := fun t => by rw [mem_comp, (hperm.map _).mem_iff]
  have hset := Tm.set_eq hasc hmem
  have hsz2 : ∀ x ∈ comp its1, x.1.size ≤ 1000000 := fun x hx => hsz x (hperm.mem_iff.1 ((comp_sublist its1).subset hx))
  have hlen2 : (comp its1).length ≤ its.length := by have := (comp_sublist its1).length_le; rw [hperm.length_eq] at this; exact this
  generalize comp its1 = its2 at *
  rcases hrow2.own.2 with ⟨hv, _⟩ | ⟨g', cap2, cur, hv, _, _, _, _⟩
  · subst hv; cases hv2
  subst hv
  obtain rfl : g' = g := by simpa [Value.ownBlock] using hv2
  have hgrow : w.grownBy w2 (some g') := hg1.trans hg2
  have hgl : g' < w.heap.size := (hrow.lt g' rfl).2
  have HSET := Lib.hid hset; clear hset
  have HG := Lib.hid hgrow
  have hrow2' : RowT w2 base (fun b => F b ∨ w.heap.size ≤ b) (.slice (some ⟨g', 0, none⟩) its2.length cap2) its2 := ⟨hrow2.own, fun x hx => RepP.mono (fun b ⟨h1, h2⟩ => ⟨.inl h1, h2⟩) (fun _ _ => rfl) _ _ _ (hrow2.reps x hx)⟩
  have HR2 := Lib.hid hrow2'
  have HSZ := Lib.hid hsz2
  have hN : its2.length ≤ 10000000 := by omega
  clear hrow2' hrow2 hsz2 HC HS hasc hmem hle hrow1 hg1 hg2 hv2 hgrow hperm
  go_wp2_with fail
  go_loopw [10] (fun a wr => ∃ (i : Nat) (cur : List It), a = .int .i64 i ∧ i ≤ its2.length ∧ cur.length = its2.length ∧ Hid (RowT wr base (fun b => F b ∨ w.heap.size ≤ b) (.slice (some ⟨g', 0, none⟩) its2.length cap2) cur) ∧
      Hid (cur.map (·.1) = its2.map (·.1)) ∧ Hid (∀ j, (h : j < cur.length) → j < i → RepP wr (fun b => w.heap.size ≤ b ∧ b < wr.heap.size ∧ g' ≠ b) cur[j].1 cur[j].2.1 cur[j].2.2) ∧ Hid (w.grownBy wr (some g')) ∧ Hid (∀ j, (h : j < cur.length) → j < i → Sk wr w.heap.size cur[j].1 cur[j].2.1))
    (fun a _ => its2.length - (intOf a).toNat)
  case atStart => exact ⟨0, its2, rfl, Nat.zero_le _, rfl, HR2.out, rfl, fun j _ h => absurd h (Nat.not_lt_zero j), HG.out, fun j _ h => absurd h (Nat.not_lt_zero j)⟩
  case round =>
    obtain ⟨i, cur, rfl, hi, hcl, HR, HM, HF, HG, HK⟩ := hrel
    by_cases hlt : i < its2.length
    · have hic : i < cur.length := by omega
      obtain ⟨k0, k1, k2, k3, _⟩ := HR.out.slot hcl.symm i hic
      have hsi : cur[i].1.size ≤ 1000000 := by
        have h1 := congrArg (·[i]?) HM.out
        simp only [List.getElem?_map, List.getElem?_eq_getElem hic, List.getElem?_eq_getElem hlt, Option.map_some, Option.some.injEq] at h1
        rw [h1]; exact HSZ.out _ (List.getElem_mem _)
      have hcl' := clone_sep 1000000 cur[i].1 cur[i].2.1 cur[i].2.2 wr hsi (Nat.le_refl _) (RepP.mono (fun b h => h.2.1) (fun _ _ => rfl) _ _ _ (HR.out.reps _ (List.getElem_mem _)))
      have HCL := Lib.hid hcl'; clear hcl'
      have i1 : (i : Int) < (its2.length : Int) := by omega
      obtain ⟨it, hit⟩ : ∃ it, it = cur[i] := ⟨_, rfl⟩
      rw [← hit] at HCL k0 k1 k2 k3
      have HIT := Lib.hid hit; clear hit
      simp only [Tm.val] at HCL
      go_wp2_with fail
      refine HCL.out.mono ?_
      rintro e w3 ⟨A, c, fp, rfl, hF3, -, hin3, hbel⟩
      have hrep := RepF.toP (P := fun b => wr.heap.size ≤ b ∧ b < w3.heap.size) _ _ _ _ hF3 hin3
      have hsk3 := RepF.toS _ _ _ _ hF3 hin3
      clear hF3 hin3
      have hR3 := HR.out.below hbel
      obtain ⟨m0, m1, m2, m3, m4⟩ := hR3.slot hcl.symm i hic
      have hs3 := hbel.size
      have hgw := (HR.out.lt g' rfl).2
      have hww := HG.out.size
      have hX : RepP w3 (fun b => (F b ∨ w.heap.size ≤ b) ∧ b < w3.heap.size ∧ g' ≠ b) it.1 A c := RepP.mono (fun b ⟨h1, h2⟩ => ⟨.inr (by omega), h2, by omega⟩) (fun _ _ => rfl) _ _ _ hrep
      have hset := hR3.set hcl.symm i hlt (it.1, A, c) hX
      have hX2 : RepP w3 (fun b => w.heap.size ≤ b ∧ b < w3.heap.size ∧ g' ≠ b) it.1 A c := RepP.mono (fun b ⟨h1, h2⟩ => ⟨by omega, h2, by omega⟩) (fun _ _ => rfl) _ _ _ hrep
      have hold : ∀ j, (h : j < cur.length) → j < i → RepP w3 (fun b => w.heap.size ≤ b ∧ b < w3.heap.size ∧ g' ≠ b) cur[j].1 cur[j].2.1 cur[j].2.2 := fun j h h' =>
        RepP.mono (fun b ⟨h1, h2, h3⟩ => ⟨h1, by omega, h3⟩) (fun p ⟨_, h2, _⟩ => hbel.cell h2) _ _ _ (HF.out j h h')
      have hk3 : Sk w3 w.heap.size it.1 A := Sk.keep (Nat.le_refl _) (by omega) (fun _ _ _ => rfl) _ _ hsk3
      have hkold : ∀ j, (h : j < cur.length) → j < i → Sk w3 w.heap.size cur[j].1 cur[j].2.1 := fun j h h' => Sk.keep hbel.size (Nat.le_refl _) (fun b _ h2 => hbel.block b h2) _ _ (HK.out j h h')
      have HK3 := Lib.hid hk3; clear hk3 hsk3
      have HKO := Lib.hid hkold; clear hkold
      have HSE := Lib.hid hset; clear hset
      have HX := Lib.hid hX2; clear hX2 hX
      have HO := Lib.hid hold; clear hold
      have hgr : w.grownBy w3 (some g') := HG.out.trans (grown_of_below hbel _)
      have HGR := Lib.hid hgr; clear hgr
      clear hrep hR3 hbel hs3
      generalize cur[i] = old at m0 m1 m2 m3
      go_wp2_with fail
      go_roundw
      case rel =>
        refine ⟨i + 1, cur.set i (it.1, A, c), by go_num, by omega, by rw [List.length_set]; exact hcl, HSE.out, ?_, ?_, HGR.out.trans (grown_set4 _ _ _ _ _ _ _ _ _ _), ?_⟩
        · show (cur.set i (it.1, A, c)).map (·.1) = _
          rw [List.map_set, ← HM.out, HIT.out]
          refine List.ext_getElem (by simp) fun j h1 h2 => ?_
          rw [List.getElem_set]
          split
          · subst_vars; simp
          · rfl
        · intro j h h'
          have h2 : j < cur.length := by simpa using h
          have hsz3 : ((((w3.setCell ⟨g', i * 4, none⟩ (.int .i64 it.1.kind)).setCell ⟨g', i * 4 + 1, none⟩ (.string it.1.name)).setCell ⟨g', i * 4 + 2, none⟩ (.int .i64 it.1.sort)).setCell ⟨g', i * 4 + 3, none⟩ (.slice A it.1.kids.length c)).heap.size = w3.heap.size := by simp [World.setCell]
          rw [hsz3]
          refine RepP.set4 (fun k h => h.2.2) ?_
          rw [List.getElem_set]
          split
          · exact HX.out
          · exact HO.out j h2 (by omega)
        · intro j h h'
          have h2 : j < cur.length := by simpa using h
          refine Sk.keep (B := w.heap.size) (w := w3) (by simp [World.setCell]) (Nat.le_refl _) (fun b hb _ => ?_) _ _ ?_
          · have hne : g' ≠ b := by omega
            simp [World.setCell, Array.getElem?_modify, hne]
          rw [List.getElem_set]
          split
          · exact HK3.out
          · exact HKO.out j h2 (by omega)
      case measure => simp [intOf]; omega
    · obtain rfl : i = its2.length := by omega
      go_wp2_with fail
      go_ret
      refine ⟨_, cur, rfl, ⟨by have := HR.out.own; rw [← hcl] at this ⊢; exact this, fun x hx => ?_⟩, HG.out, rfl, by rw [HM.out, HSET.out], fun x hx => ?_⟩
      rotate_left
      · obtain ⟨j, hj, rfl⟩ := List.getElem_of_mem hx
        exact HK.out j hj (by omega)
      obtain ⟨j, hj, rfl⟩ := List.getElem_of_mem hx
      exact RepP.mono (fun b ⟨h1, h2, h3⟩ => ⟨h1, h2, fun e => h3 (by injection e)⟩) (fun _ _ => rfl) _ _ _ (HF.out j hj (by omega))

theorem ordered_rowS (w : World) (base : Nat) (F : Nat → Prop) (v : Value) (its : List It) (hn2 : its.length ≤ 10000000) (hrow : RowT w base F v its) (hsz : ∀ x ∈ its, x.1.size ≤ 1000000) :
    Calls Tryd.prog 55 #[v] w (OrderedS w base v (its.map (·.1))) := by
  by_cases h0 : its = []
  · subst h0
    rcases hrow.own.2 with ⟨rfl, _⟩ | ⟨g, cap, cur, rfl, _⟩
    · exact (ordered_none w base F _ _ hrow).mono fun _ _ h => h.sk
    · exact (ordered_none w base F _ _ hrow).mono fun _ _ h => h.sk
  · have hpos : 0 < its.length := List.length_pos_iff.2 h0
    rcases hrow.own.2 with ⟨_, h⟩ | ⟨g, cap, cur, rfl, _⟩
    · omega
    · exact ordered_sk w base g cap its.length F its rfl hpos hn2 hrow hsz

set_option maxHeartbeats 2000000 in
set_option maxRecDepth 100000 in
theorem subterms_sk (l : List Tm) (A : Option Addr) (cap : Nat) (w : World) (hn : Tm.sizes l ≤ 1000000) (hrep : RepS w (fun b => b < w.heap.size) l A cap) :
    Calls Tryd.prog 27 #[.slice A l.length cap] w (SetOfS w (Tm.alls l)) := by
  have eg := enters_of (P := Tryd.prog) Tryd.func54 (by kernel_rfl) rfl
  obtain ⟨hr1, hr2, hr4⟩ := hrep
  have hls := Tm.length_le_sizes l
  have hb1 : Below w.heap.size w (w.alloc (.cells #[.slice none 0 0] 22)) := below1 (Nat.le_refl _) _
  have hacc0 : Acc w.heap.size w.heap.size w (w.alloc (.cells #[.slice none 0 0] 22)) [] := ⟨⟨.slice none 0 0, heap_alloc_new _ _, RowT.nil _ _ _⟩, Nat.le_refl _, by simp, hb1⟩
  have HA0 := Lib.hid hacc0; clear hacc0 hb1
  have EG := Lib.hid eg; clear eg
  go_enter Tryd.func27, Tryd.ntmps27
  go_wp2_with fail
  go_loopw [8] (fun i wr => ∃ (k : Nat) (its : List It), k ≤ l.length ∧ i = .int .i64 k ∧ Hid (Acc w.heap.size w.heap.size w wr its) ∧ Hid (its.map (·.1) = Tm.alls (l.take k)))
    (fun i _ => l.length - (intOf i).toNat)
  case atStart => exact ⟨0, [], Nat.zero_le _, rfl, HA0.out, by simp [Tm.alls, Hid]⟩
  case round =>
    obtain ⟨k, its, hk, rfl, HA, HM⟩ := hrel
    have hcb := HA.out.lt
    by_cases hlt : k < l.length
    · rcases hr4 with rfl | ⟨b, off, rfl, hbB, hl⟩
      · simp at hlt
      obtain ⟨A', cap', h0, h1, h2, h3, h5⟩ := (RepL.below hl HA.out.below hbB).get k hlt
      have hsg := Tm.sizes_get l k hlt
      have htk := Tm.sizes_take_succ l k hlt
      have htl := Tm.sizes_take_le l (k + 1)
      have hlen : its.length = Tm.sizes (l.take k) := by
        have h := congrArg List.length HM.out
        rw [Tm.alls_length, List.length_map] at h; exact h
      have HC : Hid (∀ X, Below wr.heap.size wr X → Calls Tryd.prog 53 #[l[k].val A' cap', .func (.func 54) #[] #[.pointer (some ⟨w.heap.size, 0, none⟩)]] X (Walked w.heap.size w.heap.size w X (its.map (·.1) ++ l[k].all.filter fun _ => true))) := fun X hX =>
        walk_any 54 _ _ w.heap.size w.heap.size w (visits_gather w.heap.size w.heap.size w) EG.out l[k].size l[k] A' cap' X its (Nat.le_refl _) (by omega) (HA.out.keep hX) (h5.go (hX.mono (by omega)) (Nat.le_refl _))
      clear h5 htk htl hlen hl hbB hsg
      simp only [Tm.val] at HC
      go_wp2_with fail
      refine (HC.out _ (below1 (Nat.le_refl _) _)).mono ?_
      rintro e w2 ⟨rfl, hst2, its2, hacc2, hmap2⟩
      have HM2 := Lib.hid hmap2; clear hmap2
      have HA2 := Lib.hid hacc2; clear hacc2
      clear hst2
      go_wp2_with fail
      go_roundw
      case rel => exact ⟨k + 1, its2, by omega, by go_num, HA2.out, by rw [HM2.out, HM.out, Tm.alls_take_succ l k hlt]; simp [Hid]⟩
      case measure => simp [intOf]; omega
    · obtain rfl : k = l.length := by omega
      have hmap : its.map (·.1) = Tm.alls l := by rw [HM.out, List.take_length]
      obtain ⟨⟨v, hbox, hrow⟩, hle, hlt2, hbel⟩ := HA.out
      have hcell : wr.cell? ⟨w.heap.size, 0, none⟩ = some v := by simp [World.cell?, hbox]
      have hlen : its.length ≤ 10000000 := by
        have h := congrArg List.length hmap
        rw [Tm.alls_length, List.length_map] at h; omega
      have hO := ordered_rowS wr _ _ v its hlen hrow (fun x hx => Nat.le_trans (Tm.mem_alls_size l x.1 (by rw [← hmap]; exact List.mem_map_of_mem hx)) hn)
      have HO := Lib.hid hO; clear hO
      have hres : ∀ e w3, OrderedS wr (w.heap.size + 1) v (its.map (·.1)) e w3 → SetOfS w (Tm.alls l) e w3 := fun e w3 h =>
        setOf_endS hrow hbel hbel.size (Nat.le_refl _) hmap h
      have HRES := Lib.hid hres; clear hres
      obtain ⟨Av, cv, rfl, _⟩ := hrow.toS (P := fun _ => True) (fun _ _ _ => trivial) (fun _ _ _ => trivial)
      clear hrow hbel hbox hr4
      go_wp2_with fail
      refine HO.out.mono ?_
      rintro e w3 hord
      obtain ⟨v', its', rfl, hs⟩ := HRES.out _ _ hord
      have HS := Lib.hid hs; clear hs hord
      go_wp2_with fail
      go_ret
      exact ⟨v', its', rfl, HS.out⟩

theorem Spl.set {B : Nat} {w : World} {b o : Nat} {s : ByteArray} {n : Int} (hb : B ≤ b) (ho : o % 4 = 0) : Spl B w ((w.setCell ⟨b, o + 1, none⟩ (.string s)).setCell ⟨b, o, none⟩ (.int .i64 n)) := by
  refine ⟨((Below.refl _ _).setCell hb _).setCell hb _, by simp [World.setCell], fun x _ _ p => by rw [World.frozen?_setCell, World.frozen?_setCell], fun x p _ _ hp => ?_, fun x p v _ _ hp hv => ?_, fun x p v _ _ hp hv => ?_⟩
  · rw [World.cell?_setCell_other _ _ _ _ (fun e => by injection e with e1 e2; omega), World.cell?_setCell_other _ _ _ _ (fun e => by injection e with e1 e2; omega)]
  · have h1 : (w.setCell ⟨b, o + 1, none⟩ (.string s)).cell? ⟨x, p, none⟩ = some (.int .i64 v) := by
      rw [World.cell?_setCell_other _ _ _ _ (fun e => by injection e with e1 e2; omega)]; exact hv
    by_cases he : (⟨b, o, none⟩ : Addr) = ⟨x, p, none⟩
    · rw [← he] at h1 ⊢
      exact ⟨n, World.cell?_setCell_same (u := _) _ _ _ h1⟩
    · exact ⟨v, by rw [World.cell?_setCell_other _ _ _ _ he]; exact h1⟩
  · rw [World.cell?_setCell_other _ _ _ _ (fun e => by injection e with e1 e2; omega)]
    by_cases he : (⟨b, o + 1, none⟩ : Addr) = ⟨x, p, none⟩
    · rw [← he] at hv ⊢
      exact ⟨s, World.cell?_setCell_same (u := _) _ _ _ hv⟩
    · exact ⟨v, by rw [World.cell?_setCell_other _ _ _ _ he]; exact hv⟩
theorem SkL.get {w : World} {B : Nat} : ∀ {l : List Tm} {b off : Nat}, SkL w B l b off → ∀ i (h : i < l.length), ∃ A cap x y z,
    w.cell? ⟨b, off + i * 4, none⟩ = some (.int .i64 x) ∧ w.cell? ⟨b, off + i * 4 + 1, none⟩ = some (.string y) ∧
      w.cell? ⟨b, off + i * 4 + 2, none⟩ = some (.int .i64 z) ∧ w.cell? ⟨b, off + i * 4 + 3, none⟩ = some (.slice A l[i].kids.length cap) ∧ Sk w B l[i] A
  | [], _, _, _, _, h => by simp at h
  | t :: r, b, off, h, i, hi => by
    rw [SkL] at h
    obtain ⟨⟨A, cap, x, y, z, h0, h1, h2, h3, h4⟩, hr⟩ := h
    cases i with
    | zero => exact ⟨A, cap, x, y, z, by simpa using h0, by simpa using h1, by simpa using h2, by simpa using h3, h4⟩
    | succ i =>
      obtain ⟨A', cap', x', y', z', g⟩ := SkL.get hr i (by simpa using hi)
      refine ⟨A', cap', x', y', z', ?_⟩
      have e : off + (i + 1) * 4 = off + 4 + i * 4 := by omega
      simpa [e] using g

set_option maxHeartbeats 2000000 in
set_option maxRecDepth 100000 in
theorem spoil_any (B n : Nat) : ∀ (t : Tm) (A : Option Addr) (cap : Nat) (x z : Int) (y : ByteArray) (w : World), t.size ≤ n → n ≤ 1000000 → B ≤ w.heap.size → Sk w B t A →
    Calls Tryd.prog 39 #[.agg #[.int .i64 x, .string y, .int .i64 z, .slice A t.kids.length cap]] w fun e w' => e = .returned (.tuple #[]) ∧ Spl B w w' := by
  induction n with
  | zero => intro t _ _ _ _ _ _ h; have := t.size_pos; omega
  | succ n ih =>
    intro t A cap x z y w hn hb hB hsk
    obtain ⟨tk, tn, ts, l⟩ := t
    rw [Tm.size] at hn
    have hls := Tm.length_le_sizes l
    have hlb : l.length ≤ 1000000 := by omega
    obtain ⟨W0, hW0⟩ : ∃ W0, W0 = w.alloc (.cells #[.int .i64 x, .string y, .int .i64 z, .slice A l.length cap] 24) := ⟨_, rfl⟩
    have hs0 : W0.heap.size = w.heap.size + 1 := by rw [hW0]; simp
    have hb0 : Below w.heap.size w W0 := by rw [hW0]; exact below1 (Nat.le_refl _) _
    have hbx : W0.cell? ⟨w.heap.size, 3, none⟩ = some (.slice A l.length cap) := by rw [hW0]; simp
    have hsp0 : Spl B w W0 := Spl.of_below hb0 hB
    have HSK := Lib.hid hsk; clear hsk
    have HSP0 := Lib.hid hsp0; clear hsp0
    have HBX := Lib.hid hbx; clear hbx hb0
    have HS0 := Lib.hid hs0; clear hs0
    have HW0 := Lib.hid hW0; clear hW0
    simp only [Tm.kids]
    go_enter Tryd.func39, Tryd.ntmps39
    go_wp2_with fail
    rw [← HW0.out]
    go_loopw [2] (fun i wr => ∃ k : Nat, k ≤ l.length ∧ i = .int .i64 k ∧ Hid (Spl B w wr) ∧ Hid (wr.cell? ⟨w.heap.size, 3, none⟩ = some (.slice A l.length cap)) ∧ Hid (w.heap.size < wr.heap.size)) (fun i _ => l.length - (intOf i).toNat)
    case atStart => exact ⟨0, Nat.zero_le _, rfl, HSP0.out, HBX.out, Lib.hid (by have := HS0.out; omega)⟩
    case round =>
      obtain ⟨k, hk, rfl, HSP, HC, HL⟩ := hrel
      have i1 : (0 : Int) ≤ (k : Int) := Int.natCast_nonneg _
      have hc3 := HC.out
      by_cases hlt : k < l.length
      · have i2 : (k : Int) < (l.length : Int) := by omega
        have hskw := Sk.spl HSP.out _ _ HSK.out
        rw [Sk_mk] at hskw
        rcases hskw with h0 | ⟨b, rfl, hb1, hb2, hz, hl⟩
        · rw [h0] at hlt; simp at hlt
        obtain ⟨C, ck, x', y', z', c0, c1, c2, c3, hkid⟩ := hl.get k hlt
        rw [Nat.zero_add] at c0 c1 c2 c3
        have hsg := Tm.sizes_get l k hlt
        have hI := ih l[k] C ck x' z' y' wr (by omega) (by omega) (Nat.le_trans hB HSP.out.size) hkid
        have HI := Lib.hid hI; clear hI hkid hl hsg
        have HZ := Lib.hid hz; clear hz
        go_wp2_with fail
        refine HI.out.mono ?_
        rintro e w1 ⟨rfl, hsp1⟩
        have hc3' : w1.cell? ⟨w.heap.size, 3, none⟩ = some (.slice (some ⟨b, 0, none⟩) l.length cap) := by rw [hsp1.rest w.heap.size 3 hB HL.out (by decide)]; exact hc3
        obtain ⟨x2, d0⟩ := hsp1.kind b (k * 4) x' hb1 hb2 (by omega) c0
        obtain ⟨y2, d1⟩ := hsp1.name b (k * 4 + 1) y' hb1 hb2 (by omega) c1
        have d4 : ∀ o, w1.frozen? ⟨b, o, none⟩ = false := fun o => by rw [hsp1.cold b hb1 hb2]; exact HZ.out o
        have hsp2 := HSP.out.trans (hsp1.trans (Spl.set (w := w1) (b := b) (o := k * 4) (s := ⟨#[115, 112, 111, 105, 108, 101, 100]⟩) (n := 9) hb1 (by omega)))
        have hs1 := hsp1.size
        have hl1 := HL.out
        have hb3 : b < w1.heap.size := by omega
        clear hsp1 c0 c1 c2 c3 hc3 HI
        have HSP2 := Lib.hid hsp2; clear hsp2
        have hcE : ((w1.setCell ⟨b, k * 4 + 1, none⟩ (.string ⟨#[115, 112, 111, 105, 108, 101, 100]⟩)).setCell ⟨b, k * 4, none⟩ (.int .i64 9)).cell? ⟨w.heap.size, 3, none⟩ = some (.slice (some ⟨b, 0, none⟩) l.length cap) := by
          rw [World.cell?_setCell_other _ _ _ _ (fun e => by injection e with e1 e2; omega), World.cell?_setCell_other _ _ _ _ (fun e => by injection e with e1 e2; omega)]; exact hc3'
        have hcM : (w1.setCell ⟨b, k * 4 + 1, none⟩ (.string ⟨#[115, 112, 111, 105, 108, 101, 100]⟩)).cell? ⟨w.heap.size, 3, none⟩ = some (.slice (some ⟨b, 0, none⟩) l.length cap) := by
          rw [World.cell?_setCell_other _ _ _ _ (fun e => by injection e with e1 e2; omega)]; exact hc3'
        have hcK : (w1.setCell ⟨b, k * 4 + 1, none⟩ (.string ⟨#[115, 112, 111, 105, 108, 101, 100]⟩)).cell? ⟨b, k * 4, none⟩ = some (.int .i64 x2) := by
          rw [World.cell?_setCell_other _ _ _ _ (fun e => by injection e with e1 e2; omega)]; exact d0
        have HCE := Lib.hid hcE; clear hcE
        go_wp2_with fail
        go_roundw
        case rel => exact ⟨k + 1, by omega, by go_num, HSP2.out, HCE.out, Lib.hid (by simp [World.setCell]; omega)⟩
        case measure => simp [intOf]; omega
      · obtain rfl : k = l.length := by omega
        go_wp2_with fail
        go_end0
        exact ⟨rfl, HSP.out⟩

mutual
/-- Every name has 40 bytes at most. -/
def Tm.short : Tm → Prop
  | .mk _ n _ l => n.size ≤ 40 ∧ Tm.shorts l
def Tm.shorts : List Tm → Prop
  | [] => True
  | t :: r => Tm.short t ∧ Tm.shorts r
end
mutual
theorem Tm.left_short : ∀ (t : Tm) (m : Int), 0 ≤ t.left m → t.short
  | .mk _ n _ l, m, h => by
    rw [Tm.left] at h; rw [Tm.short]
    split at h
    · omega
    · rename_i hc
      exact ⟨by omega, Tm.lefts_short l (m - 1) h⟩
theorem Tm.lefts_short : ∀ (l : List Tm) (m : Int), 0 ≤ Tm.lefts l m → Tm.shorts l
  | [], _, _ => by rw [Tm.shorts]; trivial
  | t :: r, m, h => by
    rw [Tm.lefts] at h; rw [Tm.shorts]
    split at h
    · omega
    · exact ⟨Tm.left_short t m (by omega), Tm.lefts_short r _ h⟩
end
theorem Tm.shorts_get : ∀ (l : List Tm) (i : Nat) (h : i < l.length), Tm.shorts l → l[i].short
  | [], _, h, _ => by simp at h
  | t :: r, i, h, hs => by
    rw [Tm.shorts] at hs
    cases i with
    | zero => exact hs.1
    | succ i => exact Tm.shorts_get r i (by simpa using h) hs.2
def accB (h : ByteArray) (f : Nat → ByteArray) : Nat → ByteArray
  | 0 => h
  | k + 1 => accB h f k ++ f k ++ ⟨#[44]⟩

theorem acc_size (h : ByteArray) (f : Nat → ByteArray) (l : List Tm) (hf : ∀ k, (hk : k < l.length) → (f k).size + 1 ≤ 46 * l[k].size) : ∀ k, k ≤ l.length → (accB h f k).size ≤ h.size + 46 * Tm.sizes (l.take k)
  | 0, _ => by simp [accB]
  | k + 1, hk => by
    have h1 := acc_size h f l hf k (by omega)
    have h2 := hf k (by omega)
    rw [Tm.sizes_take_succ l k (by omega), accB]
    simp only [ByteArray.size_append]
    have h3 : (⟨#[44]⟩ : ByteArray).size = 1 := rfl
    omega

set_option maxHeartbeats 2000000 in
set_option maxRecDepth 100000 in
theorem parts_any (n : Nat) : ∀ (t : Tm), t.size ≤ n → n ≤ 1000000 → t.short → ∃ s : ByteArray, s.size + 1 ≤ 46 * t.size ∧ ∀ (A : Option Addr) (cap : Nat) (w : World), RepT w w.heap.size t A cap →
    Calls Tryd.prog 37 #[t.val A cap] w fun e w' => e = .returned (.string s) ∧ Lay w.heap.size w w' := by
  induction n with
  | zero => intro t h; have := t.size_pos; omega
  | succ n ih =>
    intro t hn hb hsh
    obtain ⟨tk, tn, ts, l⟩ := t
    rw [Tm.size] at hn
    rw [Tm.short] at hsh
    obtain ⟨hnm, hshl⟩ := hsh
    have hls := Tm.length_le_sizes l
    have hch : ∀ k, k < l.length → ∃ s : ByteArray, ∀ (h : k < l.length), s.size + 1 ≤ 46 * l[k].size ∧ ∀ (A : Option Addr) (cap : Nat) (w : World), RepT w w.heap.size l[k] A cap → Calls Tryd.prog 37 #[l[k].val A cap] w fun e w' => e = .returned (.string s) ∧ Lay w.heap.size w w' := fun k hk => by
      obtain ⟨s, hs⟩ := ih l[k] (by have := Tm.sizes_get l k hk; omega) (by omega) (Tm.shorts_get l k hk hshl)
      exact ⟨s, fun _ => hs⟩
    obtain ⟨f, hf⟩ := Go.Deep.choose_lt hch
    obtain ⟨s0, hs0⟩ : ∃ s, s = strOfNums [tk % 256, ts % 256, (l.length : Int) % 256] := ⟨_, rfl⟩
    have hs3 : s0.size = 3 := by rw [hs0]; rfl
    obtain ⟨hd, hhd⟩ : ∃ h, h = s0 ++ tn ++ (⟨#[40]⟩ : ByteArray) := ⟨_, rfl⟩
    have hhs : hd.size ≤ 44 := by rw [hhd]; simp only [ByteArray.size_append]; have h3 : (⟨#[40]⟩ : ByteArray).size = 1 := rfl; omega
    have hacc := acc_size hd f l (fun k hk => (hf k hk hk).1)
    refine ⟨accB hd f l.length ++ ⟨#[41]⟩, ?_, fun A cap w hrep => ?_⟩
    · have h1 := hacc l.length (Nat.le_refl _)
      rw [List.take_length] at h1
      rw [Tm.size]
      simp only [ByteArray.size_append]
      have h3 : (⟨#[41]⟩ : ByteArray).size = 1 := rfl
      omega
    have q1 : ¬ 9223372036854775807 < s0.size + tn.size := by omega
    have q2 : ¬ 9223372036854775807 < s0.size + tn.size + 1 := by omega
    have HACC := Lib.hid hacc; clear hacc
    have HHS := Lib.hid hhs; clear hhs
    have HHD := Lib.hid hhd; clear hhd
    have HS3 := Lib.hid hs3; clear hs3 hnm hshl
    rw [RepT_mk] at hrep
    obtain ⟨hr1, hr2, hr3, hr4⟩ := hrep
    obtain ⟨W1, hW1⟩ : ∃ W1, W1 = w.alloc (.cells #[.int .i64 tk, .string tn, .int .i64 ts, .slice A l.length cap] 24) := ⟨_, rfl⟩
    obtain ⟨W2, hW2⟩ : ∃ W2, W2 = W1.alloc (.cells #[.int .u8 (tk % 256), .int .u8 (ts % 256), .int .u8 ((l.length : Int) % 256)] 5) := ⟨_, rfl⟩
    have h1 : W1.heap.size = w.heap.size + 1 := by rw [hW1]; simp
    have hlay : Lay w.heap.size w W2 := by rw [hW2, hW1]; exact ((Lay.refl _ _).alloc (Nat.le_refl _) _).alloc (by simp) _
    have hbx : W2.cell? ⟨w.heap.size, 3, none⟩ = some (.slice A l.length cap) := by
      have hb2 : Below W1.heap.size W1 W2 := by rw [hW2]; exact below1 (Nat.le_refl _) _
      rw [hb2.cell (by rw [h1]; exact Nat.lt_succ_self _), hW1]; simp
    have hn2 : W2.heap[w.heap.size + 1]? = some (.cells #[.int .u8 (tk % 256), .int .u8 (ts % 256), .int .u8 ((l.length : Int) % 256)] 5) := by rw [hW2, ← h1]; exact heap_alloc_new _ _
    have hconv := run_convert_bytes_arg (P := Tryd.prog) W2 64 5 Tryd.underlying64 Tryd.underlying5 (w.heap.size + 1) 0 3 3 [tk % 256, ts % 256, (l.length : Int) % 256] rfl (fun i hi => by
      unfold World.cell?
      rw [Nat.zero_add]
      simp only [hn2]
      match i, hi with
      | 0, _ => rfl
      | 1, _ => rfl
      | 2, _ => rfl) 9 Tryd.underlying9
    rw [← hs0] at hconv
    have HLAY := Lib.hid hlay; clear hlay
    have HBX := Lib.hid hbx; clear hbx
    have HS0 := Lib.hid hs0; clear hs0
    have HF := Lib.hid hf; clear hf hch
    rw [hW1] at hW2
    have HW2 := Lib.hid hW2
    rw [hW2] at hconv
    clear hW2 hW1 hn2 h1
    simp only [Tm.val, Tm.kind, Tm.name, Tm.sort, Tm.kids]
    go_enter Tryd.func37, Tryd.ntmps37
    go_wp2_with fail
    rw [← HHD.out, ← HW2.out]
    clear hconv q1 q2 HW2
    go_loopw [3, 4] (fun v i wr => ∃ k : Nat, k ≤ l.length ∧ i = .int .i64 k ∧ v = .string (accB hd f k) ∧ Hid (Lay w.heap.size w wr) ∧ Hid (wr.cell? ⟨w.heap.size, 3, none⟩ = some (.slice A l.length cap)) ∧ Hid (w.heap.size < wr.heap.size)) (fun _ i _ => l.length - (intOf i).toNat)
    case atStart => exact ⟨0, Nat.zero_le _, rfl, rfl, HLAY, HBX, Lib.hid (World.block_lt_of_cell? W2 ⟨w.heap.size, 3, none⟩ HBX.out)⟩
    case round =>
      obtain ⟨k, hk, rfl, rfl, HLY, HC, HL⟩ := hrel
      have i1 : (0 : Int) ≤ (k : Int) := Int.natCast_nonneg _
      have hlb : l.length ≤ 1000000 := by omega
      have hc3 := HC.out
      have hsz := HACC.out k hk
      have htk := Tm.sizes_take_le l k
      obtain ⟨o, ho⟩ : ∃ o, o = accB hd f k := ⟨_, rfl⟩
      rw [← ho] at hsz
      rw [← ho]
      by_cases hlt : k < l.length
      · have i2 : (k : Int) < (l.length : Int) := by omega
        rcases hr4 with rfl | ⟨b, off, rfl, hbB, hl⟩
        · simp at hlt
        obtain ⟨C, ck, c0, c1, c2, c3, hkid⟩ := (RepL.below hl HLY.out.below hbB).get k hlt
        obtain ⟨hfs, hfk⟩ := HF.out k hlt hlt
        have hsg := Tm.sizes_get l k hlt
        have CK := Lib.hid (hfk C ck wr (hkid.go (Below.refl _ _) HLY.out.size))
        simp only [Tm.val] at CK
        have hhs := HHS.out
        have q1 : ¬ 9223372036854775807 < o.size + (f k).size := by omega
        have q2 : ¬ 9223372036854775807 < o.size + (f k).size + 1 := by omega
        have HO := Lib.hid ho; clear ho hsz htk hkid hfs hfk hsg hhs hl
        go_wp2_with fail
        refine CK.out.mono ?_
        clear CK c0 c1 c2 c3
        rintro e w1 ⟨rfl, hl1⟩
        have hc3' := (hl1.below.cell (p := ⟨w.heap.size, 3, none⟩) HL.out).trans hc3
        have hl2 := HLY.out.trans (hl1.mono HLY.out.size)
        have hl3 : w.heap.size < w1.heap.size := Nat.lt_of_lt_of_le HL.out hl1.size
        clear hc3 hl1
        go_wp2_with fail
        go_roundw
        case rel => exact ⟨k + 1, by omega, by go_num, by rw [accB, ← HO.out], hl2, hc3', hl3⟩
        case measure => simp [intOf]; omega
      · obtain rfl : k = l.length := by omega
        rw [List.take_length] at hsz
        have hhs := HHS.out
        have q1 : ¬ 9223372036854775807 < o.size + 1 := by omega
        have HO := Lib.hid ho; clear ho hsz htk hhs
        go_wp2_with fail
        go_ret
        exact ⟨by rw [HO.out]; rfl, HLY.out⟩
end Go.Proofs.YtbgkabgbgbebaaaDoor
