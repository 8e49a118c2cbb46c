/- The law TermApart, walked. -/
import Derived.Test.YtbgkabgbgbebaaaDoorApart
import Derived.Test.YtbgkabgbgbebaaaDoorAwake
import Derived.Test.YtbgkabgbgbebaaaDoorMix
namespace Go.Proofs.YtbgkabgbgbebaaaDoor
open Go.RowKit Go.Sort

/-- A region, and what stands behind it in whatever order. -/
theorem region_cut {P : Program} {c : Code} {Q : Exit → Act → World → Prop} {a : Act} {w : World} (R : Act → Act → World → Prop) (h : c.wp P (fun e a' w' => e = .normal ∧ R a a' w') a w)
    (hr : ∀ a' w', R a a' w' → Q .normal a' w') : c.wp P Q a w :=
  Code.wp_mono (fun e a' w' ⟨h1, h2⟩ => by subst h1; exact hr a' w' h2) h

def ecOf (r : Option Tm) : Int := match r with
  | some _ => 0
  | none => 7
def tZero : Tm := .mk 0 ⟨#[]⟩ 0 []
theorem rep_zero (w : World) (P : Nat → Prop) : RepP w P tZero none 0 := by
  unfold tZero
  rw [RepP_mk]
  exact ⟨Nat.zero_le _, Nat.zero_le _, Nat.zero_le _, .inl rfl⟩
def PairS (w : World) (y : Tm) (ec : Int) (e : Ending) (w' : World) : Prop :=
  ∃ A c, e = .returned (.tuple #[.agg #[.int .i64 y.kind, .string y.name, .int .i64 y.sort, .slice A y.kids.length c], .int .i64 ec]) ∧ RepP w' (fun b => w.heap.size ≤ b ∧ b < w'.heap.size) y A c ∧ Sk w' w.heap.size y A ∧ Below w.heap.size w w'
theorem AtOfS.pairS {w : World} {r : Option Tm} {e : Ending} {w' : World} (h : AtOfS w r e w') : PairS w (r.getD tZero) (ecOf r) e w' := by
  obtain ⟨hb, h⟩ := h
  cases r with
  | none => exact ⟨none, 0, h, rep_zero _ _, by show Sk w' w.heap.size (.mk 0 ⟨#[]⟩ 0 []) none; rw [Sk_mk]; exact .inl rfl, hb⟩
  | some y =>
    obtain ⟨A, c, h1, h2, h3⟩ := h
    exact ⟨A, c, h1, h2, h3, hb⟩
theorem Tm.ec_repl (p : List Int) (t u : Tm) : ecOf (Tm.repl p t u) = ecOf (Tm.atP p t) := by
  unfold Tm.repl
  cases Tm.atP p t <;> rfl
theorem clone_ints (p : List Int) (A : Option Addr) (cap : Nat) (w : World) (h : RepI w (fun b => b < w.heap.size) p A cap) (hp : p.length ≤ 1000000) :
    Calls Tryd.prog 34 #[.slice A p.length cap] w fun e w' => ∃ A' c', e = .returned (.slice A' p.length c') ∧ RepI w' (fun b => b < w'.heap.size) p A' c' ∧ Below w.heap.size w w' := by
  obtain ⟨h1, h2, h3⟩ := h
  rcases h3 with rfl | ⟨b, off, rfl, hb, hl⟩
  · cases A with
    | none =>
      refine (Tryd.slices_Clone_int_nil 0 cap w).mono ?_
      rintro e w' ⟨rfl, rfl⟩
      exact ⟨none, 0, rfl, ⟨Nat.le_refl _, Nat.zero_le _, .inl rfl⟩, Below.refl _ _⟩
    | some a =>
      refine (Tryd.slices_Clone_int_zero a cap w).mono ?_
      rintro e w' ⟨v, rfl, ho, hv, hbb⟩
      rcases ho.2 with ⟨rfl, -⟩ | ⟨g, c, cur, rfl, -, -, h4, h5, -⟩
      · exact absurd rfl hv
      · exact ⟨_, c, rfl, ⟨Nat.zero_le _, h5, .inl rfl⟩, hbb⟩
  · refine (Tryd.slices_Clone_int b off p.length cap p w (Nat.le_refl _) (by omega) (fun j hj => by rw [hl j hj]; simp [List.getD, hj])).mono ?_
    rintro e w' ⟨v, rfl, ho, hv, hbb⟩
    rw [List.take_length] at ho
    obtain ⟨g, c, rfl, g1, g2, hI⟩ := irep_of_own (p := p) ho rfl hv
    exact ⟨_, c, rfl, (hI _ g2).toI, hbb⟩
def tzz : Tm := .mk 2 ⟨#[122]⟩ 0 []
theorem RowT.form {w : World} {base : Nat} {F : Nat → Prop} {v : Value} {its : List It} (h : RowT w base F v its) : ∃ A cap, v = .slice A its.length cap ∧ (A = none → cap = 0) := by
  rcases h.own.2 with ⟨rfl, h0⟩ | ⟨g, cap, cur, rfl, _⟩
  · exact ⟨none, 0, by rw [h0], fun _ => rfl⟩
  · exact ⟨_, cap, rfl, fun e => by cases e⟩
theorem Tm.put_size : ∀ (p : List Int) (t u : Tm), (Tm.putP p t u).size ≤ t.size + u.size
  | [], t, u => by rw [Tm.putP]; omega
  | i :: r, t, u => by
    rw [Tm.putP]
    cases hk : t.kid i with
    | none => simp only; omega
    | some k =>
      simp only
      obtain ⟨-, hl, he⟩ := Tm.kid_lt hk
      have h1 := Tm.put_size r k u
      obtain ⟨tk, tn, ts, l⟩ := t
      simp only [Tm.kids, Tm.kind, Tm.name, Tm.sort] at hl he ⊢
      rw [Tm.size, Tm.size]
      have key : ∀ (l : List Tm) (j : Nat) (hj : j < l.length) (y : Tm), Tm.sizes (l.set j y) + l[j].size = Tm.sizes l + y.size := by
        intro l
        induction l with
        | nil => intro j hj; simp at hj
        | cons a l ih =>
          intro j hj y
          cases j with
          | zero => simp only [List.set_cons_zero, Tm.sizes, List.getElem_cons_zero]; omega
          | succ j =>
            have := ih j (by simpa using hj) y
            simp only [List.set_cons_succ, Tm.sizes, List.getElem_cons_succ]; omega
      have h2 := key l i.toNat hl (Tm.putP r k u)
      rw [he] at h2
      omega

theorem Tm.at_size : ∀ (p : List Int) (t v : Tm), Tm.atP p t = some v → v.size ≤ t.size
  | [], t, v, h => by rw [Tm.atP, Option.some.injEq] at h; subst h; omega
  | i :: r, t, v, h => by
    rw [Tm.atP] at h
    cases hk : t.kid i with
    | none => simp [hk] at h
    | some k =>
      rw [hk] at h
      have h1 := Tm.at_size r k v h
      obtain ⟨-, hl, he⟩ := Tm.kid_lt hk
      have h2 := Tm.kid_size (t := t) (k := k) (by rw [← he]; exact List.getElem_mem _)
      omega

set_option maxHeartbeats 8000000 in
set_option maxRecDepth 100000 in
theorem apart_law (t : Tm) (p : List Int) (A Ap : Option Addr) (cap cp : Nat) (w : World) (hw : Words w.heap.size w) (ht : RepT w w.heap.size t A cap) (hrp : RepI w (fun b => b < w.heap.size) p Ap cp) :
    Calls Tryd.prog 8 #[t.val A cap, .slice Ap p.length cp] w fun e w' => e = .returned (.bool true) ∧ Below w.heap.size w w' := by
  have mixed : Tryd.prog.follows .mixedOrders = true := by kernel_rfl
  obtain ⟨V, hV⟩ : ∃ V, V = w.alloc (boxOf t A cap) := ⟨_, rfl⟩
  have hbV : Below w.heap.size w V := by rw [hV]; exact below1 (Nat.le_refl _) _
  have hxt : BoxT V w.heap.size t A cap := by rw [hV]; exact BoxT.new ht
  have HW := Lib.hid (hw.below hbV)
  have HRP := Lib.hid (hrp.go hbV hbV.size); clear hw ht hrp
  have HB := Lib.hid hbV; clear hbV
  have HXT := Lib.hid hxt; clear hxt
  simp only [boxOf] at hV
  have HV := Lib.hid hV; clear hV
  simp only [Tm.val]
  go_enter Tryd.func8, Tryd.ntmps8
  go_wp2_with fail
  rw [← HV.out]
  refine (awake_any V HW.out).mono ?_
  rintro e w1 ⟨rfl, hb1⟩
  clear HV
  have n_HW := HW.out.below hb1
  have n_HRP := HRP.out.go hb1 hb1.size
  have n_HB := below_then HB.out hb1 HB.out.size
  have n_HXT := HXT.out.below hb1
  clear HW HRP HB HXT
  have HW := Lib.hid n_HW; clear n_HW
  have HRP := Lib.hid n_HRP; clear n_HRP
  have HB := Lib.hid n_HB; clear n_HB
  have HXT := Lib.hid n_HXT; clear n_HXT
  obtain ⟨a0, a1, a2, a3, -⟩ := HXT.out.cells
  obtain ⟨Z, hZ⟩ : ∃ Z, Z = w1.alloc (.cells (itCells [(t, A, cap)]).toArray 24) := ⟨_, rfl⟩
  have hzb : Below w1.heap.size w1 Z := by rw [hZ]; exact below1 (Nat.le_refl _) _
  have hsl : RepS Z (fun b => b < Z.heap.size) [t] (some ⟨w1.heap.size, 0, none⟩) 1 :=
    repS_cells [(t, A, cap)] (by rw [hZ]; exact heap_alloc_new _ _) (by rw [hZ]; simp) (fun x hx => by
      simp only [List.mem_cons, List.not_mem_nil, or_false] at hx
      subst hx
      exact (HXT.out.below hzb).2) (by simp)
  simp only [itCells, Tm.cells, List.cons_append, List.nil_append] at hZ
  have HZ := Lib.hid hZ; clear hZ
  have HSL := Lib.hid hsl; clear hsl
  have n_HW := HW.out.below hzb
  have n_HRP := HRP.out.go hzb hzb.size
  have n_HB := below_then HB.out hzb HB.out.size
  have n_HXT := HXT.out.below hzb
  clear HW HRP HB HXT
  have HW := Lib.hid n_HW; clear n_HW
  have HRP := Lib.hid n_HRP; clear n_HRP
  have HB := Lib.hid n_HB; clear n_HB
  have HXT := Lib.hid n_HXT; clear n_HXT
  clear hb1 hzb
  go_wp2_with fail
  rw [← HZ.out]
  refine (few_any [t] _ 1 1 100 Z (by decide) (by decide) HSL.out).mono ?_
  rintro e w2 ⟨rfl, hl2⟩
  have hb2 := hl2.below
  clear HZ HSL hl2
  have n_HW := HW.out.below hb2
  have n_HRP := HRP.out.go hb2 hb2.size
  have n_HB := below_then HB.out hb2 HB.out.size
  have n_HXT := HXT.out.below hb2
  clear HW HRP HB HXT
  have HW := Lib.hid n_HW; clear n_HW
  have HRP := Lib.hid n_HRP; clear n_HRP
  have HB := Lib.hid n_HB; clear n_HB
  have HXT := Lib.hid n_HXT; clear n_HXT
  clear a0 a1 a2 a3
  obtain ⟨a0, a1, a2, a3, -⟩ := HXT.out.cells
  clear hb2
  by_cases hle : (([t] : List Tm).length : Int) ≤ 1 ∧ 0 ≤ Tm.lefts [t] 100
  · have hsz := Tm.lefts_each (by decide) hle.2
    have st : t.size ≤ 100 := by have := hsz t (by simp); omega
    have hsh : t.short := by
      have h := Tm.lefts_short [t] 100 hle.2
      rw [Tm.shorts] at h
      exact h.1
    rw [decide_eq_true hle]
    clear hle hsz
    have ST := Lib.hid st; clear st
    have SH := Lib.hid hsh; clear hsh
    by_cases hp60 : (60 : Int) < (p.length : Int)
    · have d1 : decide ((60 : Int) < (p.length : Int)) = true := decide_eq_true hp60
      go_wp2_with fail
      refine (awake_any w2 HW.out).mono ?_
      rintro e w3 ⟨rfl, hb3⟩
      go_wp2_with fail
      go_ret
      exact ⟨rfl, below_then HB.out hb3 HB.out.size⟩
    · have d1 : decide ((60 : Int) < (p.length : Int)) = false := decide_eq_false hp60
      have hpl : p.length ≤ 60 := by omega
      clear hp60 HW
      have HPL := Lib.hid hpl; clear hpl
      obtain ⟨sp, -, hsp⟩ := parts_any 1000 t (by have := ST.out; omega) (by decide) SH.out
      have PA : Hid (∀ Y, Below w2.heap.size w2 Y → Calls Tryd.prog 37 #[.agg #[.int .i64 t.kind, .string t.name, .int .i64 t.sort, .slice A t.kids.length cap]] Y fun e w' => e = .returned (.string sp) ∧ Lay Y.heap.size Y w') := fun Y h => hsp A cap Y (HXT.out.below h).2
      clear hsp
      obtain ⟨Y1, hY1⟩ : ∃ y, y = (Tm.repl p t tzz).getD tZero := ⟨_, rfl⟩
      obtain ⟨Y2, hY2⟩ : ∃ y, y = (Tm.atP p t).getD tZero := ⟨_, rfl⟩
      obtain ⟨E0, hE0⟩ : ∃ y, y = ecOf (Tm.atP p t) := ⟨_, rfl⟩
      have hE : E0 = 7 ∨ E0 = 0 := by
        rw [hE0]
        cases Tm.atP p t with
        | none => exact .inl rfl
        | some v => exact .inr rfl
      have sy1 : Y1.size ≤ 1000 := by
        rw [hY1]; unfold Tm.repl
        cases Tm.atP p t with
        | none => show tZero.size ≤ 1000; decide
        | some v => have := Tm.put_size p t tzz; have := ST.out; have h1 : tzz.size = 1 := rfl; simp only [Option.getD_some]; omega
      have sy2 : Y2.size ≤ 1000 := by
        rw [hY2]
        cases ha : Tm.atP p t with
        | none => show tZero.size ≤ 1000; decide
        | some v => have := Tm.at_size p t v ha; have := ST.out; simp only [Option.getD_some]; omega
      have HF : Hid (∀ Y, Below w2.heap.size w2 Y → Y.cell? ⟨w.heap.size, 0, none⟩ = some (.int .i64 t.kind) ∧ Y.cell? ⟨w.heap.size, 1, none⟩ = some (.string t.name) ∧ Y.cell? ⟨w.heap.size, 2, none⟩ = some (.int .i64 t.sort) ∧ Y.cell? ⟨w.heap.size, 3, none⟩ = some (.slice A t.kids.length cap)) := fun Y h => by
        obtain ⟨h0, h1, h2, h3, -⟩ := (HXT.out.below h).cells
        exact ⟨h0, h1, h2, h3⟩
      have CLN : Hid (∀ Y, Below w2.heap.size w2 Y → Calls Tryd.prog 34 #[.slice Ap p.length cp] Y fun e w' => ∃ A' c', e = .returned (.slice A' p.length c') ∧ RepI w' (fun b => b < w'.heap.size) p A' c' ∧ Below Y.heap.size Y w') := fun Y h =>
        clone_ints p Ap cp Y (HRP.out.go h h.size) (by have := HPL.out; omega)
      have REP : Hid (∀ Y Aq cq, Below w2.heap.size w2 Y → RepI Y (fun b => b < Y.heap.size) p Aq cq → Calls Tryd.prog 33 #[.agg #[.int .i64 t.kind, .string t.name, .int .i64 t.sort, .slice A t.kids.length cap], .slice Aq p.length cq, .agg #[.int .i64 2, .string ⟨#[122]⟩, .int .i64 0, .slice none 0 0]] Y (PairS Y Y1 E0)) := fun Y Aq cq h hq => by
        rw [hY1, hE0, ← Tm.ec_repl p t tzz]
        exact (replace_sk t tzz A none cap 0 p Aq cq Y (by have := ST.out; omega) (by decide) (by have := HPL.out; omega) (HXT.out.below h).2 (by unfold tzz; rw [RepT_mk]; exact ⟨by show 1 ≤ maxLen; unfold maxLen; omega, Nat.zero_le _, Nat.zero_le _, .inl rfl⟩) hq).mono fun _ _ h => h.pairS
      have ATS : Hid (∀ Y, Below w2.heap.size w2 Y → Calls Tryd.prog 23 #[.agg #[.int .i64 t.kind, .string t.name, .int .i64 t.sort, .slice A t.kids.length cap], .slice Ap p.length cp] Y (PairS Y Y2 E0)) := fun Y h => by
        rw [hY2, hE0]
        exact (at_sk t A cap p Ap cp Y (by have := ST.out; omega) (by have := HPL.out; omega) (HXT.out.below h).2 (HRP.out.go h h.size)).mono fun _ _ h => h.pairS
      clear hY1 hY2 hE0
      have SY1 := Lib.hid sy1; clear sy1
      have SY2 := Lib.hid sy2; clear sy2
      have HE := Lib.hid hE; clear hE
      go_wp2_with fail
      refine (PA.out w2 (Below.refl _ _)).mono ?_
      rintro e y0 ⟨rfl, hl0⟩
      have hs0 := hl0.drew.below; clear hl0 a0 a1 a2 a3
      have ATM : Hid (∀ Y, Calls Tryd.prog 38 #[.string ⟨#[122]⟩, .int .i64 0] Y fun e w' => e = .returned (.agg #[.int .i64 2, .string ⟨#[122]⟩, .int .i64 0, .slice none 0 0]) ∧ Below Y.heap.size Y w') := fun Y => by
        refine (atom_any ⟨#[122]⟩ 0 Y).mono ?_
        rintro e w' ⟨rfl, h⟩
        exact ⟨rfl, h.below⟩
      go_wp2_with fail
      have HS := Lib.hid hs0; clear hs0
      refine region_cut (fun a0 a' w' => ∃ bx A7 c7 Aq cq, a' = ((((((((((a0.put (some 28) (.agg #[.int .i64 t.kind, .string t.name, .int .i64 t.sort, .slice A t.kids.length cap])).put (some 29) (.slice Ap p.length cp)).put (some 30) (.slice Aq p.length cq)).put (some 31) (.agg #[.int .i64 2, .string ⟨#[122]⟩, .int .i64 0, .slice none 0 0])).put (some 32) (.tuple #[.agg #[.int .i64 Y1.kind, .string Y1.name, .int .i64 Y1.sort, .slice A7 Y1.kids.length c7], .int .i64 E0])).put (some 27) (.tuple #[.agg #[.int .i64 Y1.kind, .string Y1.name, .int .i64 Y1.sort, .slice A7 Y1.kids.length c7], .int .i64 E0])).put (some 33) (.agg #[.int .i64 Y1.kind, .string Y1.name, .int .i64 Y1.sort, .slice A7 Y1.kids.length c7])).put (some 34) (.int .i64 E0)).put (some 6) (.pointer (some ⟨bx, 0, none⟩))).put (some 7) (.int .i64 E0)) ∧
          BoxT w' bx Y1 A7 c7 ∧ Sk w' w2.heap.size Y1 A7 ∧ Below w2.heap.size w2 w') ?_ ?_
      · refine wp_region_mix (fun Y => Below w2.heap.size w2 Y) 11 (.held 0 (.held 1 (.two 2 8 (.two 3 8 (.two 4 8 (.held 5 (.held 6 (.held 7 (.op 8 (.op 9 (.op 10 .nil)))))) (.op 4 (.held 5 (.held 6 (.held 7 (.op 9 (.op 10 .nil))))))) (.op 3 (.op 4 (.held 5 (.held 6 (.held 7 (.op 9 (.op 10 .nil)))))))) (.op 2 (.op 3 (.op 4 (.held 5 (.held 6 (.held 7 (.op 9 (.op 10 .nil))))))))))) mixed (by kernel_rfl) ?_
        refine mix_take (v := .agg #[.int .i64 t.kind, .string t.name, .int .i64 t.sort, .slice A t.kids.length cap]) rfl rfl (fun _ _ _ h => nomatch h.1) HS.out (fun Y hY => by obtain ⟨b0, b1, b2, b3⟩ := HF.out Y hY; (try simp only [Act.put]); go_simp) ?_
        refine mix_take (v := .slice Ap p.length cp) rfl rfl (fun _ _ _ h => nomatch h.1) HS.out (fun Y hY => by obtain ⟨b0, b1, b2, b3⟩ := HF.out Y hY; (try simp only [Act.put]); go_simp) ?_
        simp only [Act.put, List.setIfInBounds_toArray]
        refine mix_two ?_ ?_
        · skip
          refine mix_op rfl rfl (fun K hK => ?_)
          go_wp2_with fail
          refine (CLN.out y0.drew HS.out).mono ?_
          rintro e y1 ⟨Aq, cq, rfl, hrq, hb⟩
          have hS := below_then HS.out hb HS.out.size; clear HS
          have HS := Lib.hid hS; clear hS
          have HRQ := Lib.hid hrq; clear hrq hb
          refine hK _ _ ⟨fun _ => HS.out, ?_⟩; clear hK K
          refine mix_two ?_ ?_
          · skip
            refine mix_op rfl rfl (fun K hK => ?_)
            go_wp2_with fail
            refine (ATM.out y1).mono ?_
            rintro e ya ⟨rfl, hb⟩
            have hS := below_then HS.out hb HS.out.size; clear HS
            have HS := Lib.hid hS; clear hS
            have hrq := HRQ.out.go hb hb.size; clear HRQ
            have HRQ := Lib.hid hrq; clear hrq
            clear hb
            refine hK _ _ ⟨fun _ => HS.out, ?_⟩; clear hK K
            refine mix_two ?_ ?_
            · skip
              refine mix_op rfl rfl (fun K hK => ?_)
              go_wp2_with fail
              have hwy := HS.out.size
              refine (REP.out ya Aq cq HS.out HRQ.out).mono ?_
              rintro e y2 ⟨A7, c7, rfl, hr7, hk7, hb⟩
              skip
              have hS := below_then HS.out hb HS.out.size; clear HS
              have HS := Lib.hid hS; clear hS
              have HK7S := Lib.hid (Sk.keep (B' := w2.heap.size) (Nat.le_refl _) hwy (fun _ _ _ => rfl) _ _ hk7); clear hk7
              have HR7 := Lib.hid (repT_of hr7); clear hr7 hb
              refine hK _ _ ⟨fun _ => HS.out, ?_⟩; clear hK K
              refine mix_take (v := .tuple #[.agg #[.int .i64 Y1.kind, .string Y1.name, .int .i64 Y1.sort, .slice A7 Y1.kids.length c7], .int .i64 E0]) rfl rfl (fun _ _ _ h => nomatch h.1) HS.out (fun Y hY => by obtain ⟨b0, b1, b2, b3⟩ := HF.out Y hY; (try simp only [Act.put]); go_simp) ?_
              refine mix_take (v := .agg #[.int .i64 Y1.kind, .string Y1.name, .int .i64 Y1.sort, .slice A7 Y1.kids.length c7]) rfl rfl (fun _ _ _ h => nomatch h.1) HS.out (fun Y hY => by obtain ⟨b0, b1, b2, b3⟩ := HF.out Y hY; (try simp only [Act.put]); go_simp) ?_
              refine mix_take (v := .int .i64 E0) rfl rfl (fun _ _ _ h => nomatch h.1) HS.out (fun Y hY => by obtain ⟨b0, b1, b2, b3⟩ := HF.out Y hY; (try simp only [Act.put]); go_simp) ?_
              simp only [Act.put, List.setIfInBounds_toArray]
              refine mix_op rfl rfl (fun K hK => ?_)
              go_wp2_with fail
              refine ⟨fun _ => HS.out.alloc HS.out.size _, ?_⟩
              refine mix_op rfl rfl (fun K hK => ?_)
              go_wp2_with fail
              have hbx := BoxT.new HR7.out
              simp only [boxOf] at hbx
              have hs4 := HS.out.alloc HS.out.size (.cells #[.int .i64 Y1.kind, .string Y1.name, .int .i64 Y1.sort, .slice A7 Y1.kids.length c7] 24)
              have hk4 : Sk (y2.alloc (.cells #[.int .i64 Y1.kind, .string Y1.name, .int .i64 Y1.sort, .slice A7 Y1.kids.length c7] 24)) w2.heap.size Y1 A7 := Sk.keep (by simp) (Nat.le_refl _) (fun b _ h2 => Below.heap_alloc _ _ _ h2) _ _ HK7S.out
              clear HS HR7 HK7S
              generalize y2.alloc (.cells #[.int .i64 Y1.kind, .string Y1.name, .int .i64 Y1.sort, .slice A7 Y1.kids.length c7] 24) = E at *
              have HS := Lib.hid hs4; clear hs4
              have HK7 := Lib.hid hk4; clear hk4
              have HBX := Lib.hid hbx; clear hbx
              refine ⟨fun _ => HS.out, ?_⟩
              refine mix_op rfl rfl (fun K hK => ?_)
              go_wp2_with fail
              exact ⟨fun _ => HS.out, mix_nil ⟨rfl, y2.heap.size, A7, c7, Aq, cq, rfl, HBX.out, HK7.out, HS.out⟩⟩
            · skip
              refine mix_op rfl rfl (fun K hK => ?_)
              go_wp2_with fail
              refine ⟨fun _ => HS.out.alloc HS.out.size _, ?_⟩
              obtain ⟨X, hX⟩ : ∃ X, X = (ya.alloc (.cells #[.int .i64 0, .string ⟨#[]⟩, .int .i64 0, .slice none 0 0] 24)) := ⟨_, rfl⟩
              have hXn : X.heap[ya.heap.size]? = some (.cells #[.int .i64 0, .string ⟨#[]⟩, .int .i64 0, .slice none 0 0] 24) := by rw [hX]; exact heap_alloc_new ya _
              have hXs : X.heap.size = ya.heap.size + 1 := by rw [hX]; simp
              have hS : Below w2.heap.size w2 X := by rw [hX]; exact HS.out.alloc HS.out.size _
              have hwb : w2.heap.size ≤ ya.heap.size := HS.out.size
              have hrq' : RepI X (fun b => b < X.heap.size) p Aq cq := HRQ.out.go (by rw [hX]; exact below1 (Nat.le_refl _) _) (by omega)
              rw [← hX]
              clear HS hX
              have HS := Lib.hid hS; clear hS
              have HXN := Lib.hid hXn; clear hXn
              have HXS := Lib.hid hXs; clear hXs
              clear HRQ; have HRQ := Lib.hid hrq'; clear hrq'
              have hys' : ya.heap.size + 1 ≤ X.heap.size := by rw [HXS.out]; omega
              have HYN0 := Lib.hid HXN.out; clear HXN HXS
              refine mix_op rfl rfl (fun K hK => ?_)
              go_wp2_with fail
              have hwy := HS.out.size
              refine (REP.out X Aq cq HS.out HRQ.out).mono ?_
              rintro e y2 ⟨A7, c7, rfl, hr7, hk7, hb⟩
              skip
              have hS := below_then HS.out hb HS.out.size; clear HS
              have HS := Lib.hid hS; clear hS
              have hYn := (hb.block ya.heap.size (by omega)).trans HYN0.out
              have hr7' : RepP y2 (fun b => ya.heap.size + 1 ≤ b ∧ b < y2.heap.size) Y1 A7 c7 := RepP.mono (fun b h => ⟨by omega, h.2⟩) (fun _ _ => rfl) _ _ _ hr7
              have hk7' : Sk y2 (ya.heap.size + 1) Y1 A7 := Sk.keep (Nat.le_refl _) (by omega) (fun _ _ _ => rfl) _ _ hk7
              have HYN := Lib.hid hYn; clear hYn
              have HR7 := Lib.hid hr7'; clear hr7' hr7
              have HK7S := Lib.hid hk7'; clear hk7' hk7 hb HYN0
              obtain ⟨z0, z1, z2, z3, z4⟩ := box_at HYN.out
              refine hK _ _ ⟨fun _ => HS.out, ?_⟩; clear hK K
              refine mix_take (v := .tuple #[.agg #[.int .i64 Y1.kind, .string Y1.name, .int .i64 Y1.sort, .slice A7 Y1.kids.length c7], .int .i64 E0]) rfl rfl (fun _ _ _ h => nomatch h.1) HS.out (fun Y hY => by obtain ⟨b0, b1, b2, b3⟩ := HF.out Y hY; (try simp only [Act.put]); go_simp) ?_
              refine mix_take (v := .agg #[.int .i64 Y1.kind, .string Y1.name, .int .i64 Y1.sort, .slice A7 Y1.kids.length c7]) rfl rfl (fun _ _ _ h => nomatch h.1) HS.out (fun Y hY => by obtain ⟨b0, b1, b2, b3⟩ := HF.out Y hY; (try simp only [Act.put]); go_simp) ?_
              refine mix_take (v := .int .i64 E0) rfl rfl (fun _ _ _ h => nomatch h.1) HS.out (fun Y hY => by obtain ⟨b0, b1, b2, b3⟩ := HF.out Y hY; (try simp only [Act.put]); go_simp) ?_
              simp only [Act.put, List.setIfInBounds_toArray]
              have hE4 : BoxT ((((y2.setCell ⟨ya.heap.size, 0, none⟩ (.int .i64 Y1.kind)).setCell ⟨ya.heap.size, 1, none⟩ (.string Y1.name)).setCell ⟨ya.heap.size, 2, none⟩ (.int .i64 Y1.sort)).setCell ⟨ya.heap.size, 3, none⟩ (.slice A7 Y1.kids.length c7)) ya.heap.size Y1 A7 c7 := ⟨heap_set4 HYN.out, RepP.mono (fun b ⟨_, h2⟩ => by simpa [World.setCell] using h2) (fun q ⟨h1, _⟩ => World.cell?_of_block (heap_set4_other (by omega))) _ _ _ HR7.out⟩
              have hK4 : Sk ((((y2.setCell ⟨ya.heap.size, 0, none⟩ (.int .i64 Y1.kind)).setCell ⟨ya.heap.size, 1, none⟩ (.string Y1.name)).setCell ⟨ya.heap.size, 2, none⟩ (.int .i64 Y1.sort)).setCell ⟨ya.heap.size, 3, none⟩ (.slice A7 Y1.kids.length c7)) w2.heap.size Y1 A7 := Sk.keep (by simp [World.setCell]) (by omega) (fun b h1 _ => heap_set4_other (by omega)) _ _ HK7S.out
              have hS4 : Below w2.heap.size w2 ((((y2.setCell ⟨ya.heap.size, 0, none⟩ (.int .i64 Y1.kind)).setCell ⟨ya.heap.size, 1, none⟩ (.string Y1.name)).setCell ⟨ya.heap.size, 2, none⟩ (.int .i64 Y1.sort)).setCell ⟨ya.heap.size, 3, none⟩ (.slice A7 Y1.kids.length c7)) := below_set4 HS.out hwb
              have HE4 := Lib.hid hE4; clear hE4
              have HS4 := Lib.hid hS4; clear hS4
              have HK7 := Lib.hid hK4; clear hK4 HK7S
              clear HS
              refine mix_op rfl rfl (fun K hK => ?_)
              go_wp2_with fail
              have HBX := HE4
              have HS := HS4
              clear HE4 HS4 z0 z1 z2 z3 z4
              generalize ((((y2.setCell ⟨ya.heap.size, 0, none⟩ (.int .i64 Y1.kind)).setCell ⟨ya.heap.size, 1, none⟩ (.string Y1.name)).setCell ⟨ya.heap.size, 2, none⟩ (.int .i64 Y1.sort)).setCell ⟨ya.heap.size, 3, none⟩ (.slice A7 Y1.kids.length c7)) = E at *
              refine ⟨fun _ => HS.out, ?_⟩
              refine mix_op rfl rfl (fun K hK => ?_)
              go_wp2_with fail
              exact ⟨fun _ => HS.out, mix_nil ⟨rfl, ya.heap.size, A7, c7, Aq, cq, rfl, HBX.out, HK7.out, HS.out⟩⟩
          · skip
            refine mix_op rfl rfl (fun K hK => ?_)
            go_wp2_with fail
            refine ⟨fun _ => HS.out.alloc HS.out.size _, ?_⟩
            obtain ⟨X, hX⟩ : ∃ X, X = (y1.alloc (.cells #[.int .i64 0, .string ⟨#[]⟩, .int .i64 0, .slice none 0 0] 24)) := ⟨_, rfl⟩
            have hXn : X.heap[y1.heap.size]? = some (.cells #[.int .i64 0, .string ⟨#[]⟩, .int .i64 0, .slice none 0 0] 24) := by rw [hX]; exact heap_alloc_new y1 _
            have hXs : X.heap.size = y1.heap.size + 1 := by rw [hX]; simp
            have hS : Below w2.heap.size w2 X := by rw [hX]; exact HS.out.alloc HS.out.size _
            have hwb : w2.heap.size ≤ y1.heap.size := HS.out.size
            have hrq' : RepI X (fun b => b < X.heap.size) p Aq cq := HRQ.out.go (by rw [hX]; exact below1 (Nat.le_refl _) _) (by omega)
            rw [← hX]
            clear HS hX
            have HS := Lib.hid hS; clear hS
            have HXN := Lib.hid hXn; clear hXn
            have HXS := Lib.hid hXs; clear hXs
            clear HRQ; have HRQ := Lib.hid hrq'; clear hrq'
            have hys' : y1.heap.size + 1 ≤ X.heap.size := by rw [HXS.out]; omega
            have HYN0 := Lib.hid HXN.out; clear HXN HXS
            refine mix_op rfl rfl (fun K hK => ?_)
            go_wp2_with fail
            refine (ATM.out X).mono ?_
            rintro e ya ⟨rfl, hb⟩
            have hS := below_then HS.out hb HS.out.size; clear HS
            have HS := Lib.hid hS; clear hS
            have hrq := HRQ.out.go hb hb.size; clear HRQ
            have HRQ := Lib.hid hrq; clear hrq
            have hyn := (hb.block y1.heap.size (by omega)).trans HYN0.out; clear HYN0
            have hyq := hb.size
            replace hys' : y1.heap.size + 1 ≤ ya.heap.size := Nat.le_trans hys' hyq; clear hyq
            have HYN0 := Lib.hid hyn; clear hyn
            clear hb
            refine hK _ _ ⟨fun _ => HS.out, ?_⟩; clear hK K
            refine mix_op rfl rfl (fun K hK => ?_)
            go_wp2_with fail
            have hwy := HS.out.size
            refine (REP.out ya Aq cq HS.out HRQ.out).mono ?_
            rintro e y2 ⟨A7, c7, rfl, hr7, hk7, hb⟩
            skip
            have hS := below_then HS.out hb HS.out.size; clear HS
            have HS := Lib.hid hS; clear hS
            have hYn := (hb.block y1.heap.size (by omega)).trans HYN0.out
            have hr7' : RepP y2 (fun b => y1.heap.size + 1 ≤ b ∧ b < y2.heap.size) Y1 A7 c7 := RepP.mono (fun b h => ⟨by omega, h.2⟩) (fun _ _ => rfl) _ _ _ hr7
            have hk7' : Sk y2 (y1.heap.size + 1) Y1 A7 := Sk.keep (Nat.le_refl _) (by omega) (fun _ _ _ => rfl) _ _ hk7
            have HYN := Lib.hid hYn; clear hYn
            have HR7 := Lib.hid hr7'; clear hr7' hr7
            have HK7S := Lib.hid hk7'; clear hk7' hk7 hb HYN0
            obtain ⟨z0, z1, z2, z3, z4⟩ := box_at HYN.out
            refine hK _ _ ⟨fun _ => HS.out, ?_⟩; clear hK K
            refine mix_take (v := .tuple #[.agg #[.int .i64 Y1.kind, .string Y1.name, .int .i64 Y1.sort, .slice A7 Y1.kids.length c7], .int .i64 E0]) rfl rfl (fun _ _ _ h => nomatch h.1) HS.out (fun Y hY => by obtain ⟨b0, b1, b2, b3⟩ := HF.out Y hY; (try simp only [Act.put]); go_simp) ?_
            refine mix_take (v := .agg #[.int .i64 Y1.kind, .string Y1.name, .int .i64 Y1.sort, .slice A7 Y1.kids.length c7]) rfl rfl (fun _ _ _ h => nomatch h.1) HS.out (fun Y hY => by obtain ⟨b0, b1, b2, b3⟩ := HF.out Y hY; (try simp only [Act.put]); go_simp) ?_
            refine mix_take (v := .int .i64 E0) rfl rfl (fun _ _ _ h => nomatch h.1) HS.out (fun Y hY => by obtain ⟨b0, b1, b2, b3⟩ := HF.out Y hY; (try simp only [Act.put]); go_simp) ?_
            simp only [Act.put, List.setIfInBounds_toArray]
            have hE4 : BoxT ((((y2.setCell ⟨y1.heap.size, 0, none⟩ (.int .i64 Y1.kind)).setCell ⟨y1.heap.size, 1, none⟩ (.string Y1.name)).setCell ⟨y1.heap.size, 2, none⟩ (.int .i64 Y1.sort)).setCell ⟨y1.heap.size, 3, none⟩ (.slice A7 Y1.kids.length c7)) y1.heap.size Y1 A7 c7 := ⟨heap_set4 HYN.out, RepP.mono (fun b ⟨_, h2⟩ => by simpa [World.setCell] using h2) (fun q ⟨h1, _⟩ => World.cell?_of_block (heap_set4_other (by omega))) _ _ _ HR7.out⟩
            have hK4 : Sk ((((y2.setCell ⟨y1.heap.size, 0, none⟩ (.int .i64 Y1.kind)).setCell ⟨y1.heap.size, 1, none⟩ (.string Y1.name)).setCell ⟨y1.heap.size, 2, none⟩ (.int .i64 Y1.sort)).setCell ⟨y1.heap.size, 3, none⟩ (.slice A7 Y1.kids.length c7)) w2.heap.size Y1 A7 := Sk.keep (by simp [World.setCell]) (by omega) (fun b h1 _ => heap_set4_other (by omega)) _ _ HK7S.out
            have hS4 : Below w2.heap.size w2 ((((y2.setCell ⟨y1.heap.size, 0, none⟩ (.int .i64 Y1.kind)).setCell ⟨y1.heap.size, 1, none⟩ (.string Y1.name)).setCell ⟨y1.heap.size, 2, none⟩ (.int .i64 Y1.sort)).setCell ⟨y1.heap.size, 3, none⟩ (.slice A7 Y1.kids.length c7)) := below_set4 HS.out hwb
            have HE4 := Lib.hid hE4; clear hE4
            have HS4 := Lib.hid hS4; clear hS4
            have HK7 := Lib.hid hK4; clear hK4 HK7S
            clear HS
            refine mix_op rfl rfl (fun K hK => ?_)
            go_wp2_with fail
            have HBX := HE4
            have HS := HS4
            clear HE4 HS4 z0 z1 z2 z3 z4
            generalize ((((y2.setCell ⟨y1.heap.size, 0, none⟩ (.int .i64 Y1.kind)).setCell ⟨y1.heap.size, 1, none⟩ (.string Y1.name)).setCell ⟨y1.heap.size, 2, none⟩ (.int .i64 Y1.sort)).setCell ⟨y1.heap.size, 3, none⟩ (.slice A7 Y1.kids.length c7)) = E at *
            refine ⟨fun _ => HS.out, ?_⟩
            refine mix_op rfl rfl (fun K hK => ?_)
            go_wp2_with fail
            exact ⟨fun _ => HS.out, mix_nil ⟨rfl, y1.heap.size, A7, c7, Aq, cq, rfl, HBX.out, HK7.out, HS.out⟩⟩
        · skip
          refine mix_op rfl rfl (fun K hK => ?_)
          go_wp2_with fail
          refine ⟨fun _ => HS.out.alloc HS.out.size _, ?_⟩
          obtain ⟨X, hX⟩ : ∃ X, X = (y0.alloc (.cells #[.int .i64 0, .string ⟨#[]⟩, .int .i64 0, .slice none 0 0] 24)).drew := ⟨_, rfl⟩
          have hXn : X.heap[y0.heap.size]? = some (.cells #[.int .i64 0, .string ⟨#[]⟩, .int .i64 0, .slice none 0 0] 24) := by rw [hX]; exact heap_alloc_new y0 _
          have hXs : X.heap.size = y0.heap.size + 1 := by rw [hX]; simp
          have hS : Below w2.heap.size w2 X := by rw [hX]; exact HS.out.alloc HS.out.size _
          have hwb : w2.heap.size ≤ y0.heap.size := HS.out.size
          rw [← hX]
          clear HS hX
          have HS := Lib.hid hS; clear hS
          have HXN := Lib.hid hXn; clear hXn
          have HXS := Lib.hid hXs; clear hXs
          have hys' : y0.heap.size + 1 ≤ X.heap.size := by rw [HXS.out]; omega
          have HYN0 := Lib.hid HXN.out; clear HXN HXS
          refine mix_op rfl rfl (fun K hK => ?_)
          go_wp2_with fail
          refine (CLN.out X HS.out).mono ?_
          rintro e y1 ⟨Aq, cq, rfl, hrq, hb⟩
          have hS := below_then HS.out hb HS.out.size; clear HS
          have HS := Lib.hid hS; clear hS
          have HRQ := Lib.hid hrq; clear hrq
          have hyn := (hb.block y0.heap.size (by omega)).trans HYN0.out; clear HYN0
          have hyq := hb.size
          replace hys' : y0.heap.size + 1 ≤ y1.heap.size := Nat.le_trans hys' hyq; clear hyq
          have HYN0 := Lib.hid hyn; clear hyn
          clear hb
          refine hK _ _ ⟨fun _ => HS.out, ?_⟩; clear hK K
          refine mix_op rfl rfl (fun K hK => ?_)
          go_wp2_with fail
          refine (ATM.out y1).mono ?_
          rintro e ya ⟨rfl, hb⟩
          have hS := below_then HS.out hb HS.out.size; clear HS
          have HS := Lib.hid hS; clear hS
          have hrq := HRQ.out.go hb hb.size; clear HRQ
          have HRQ := Lib.hid hrq; clear hrq
          have hyn := (hb.block y0.heap.size (by omega)).trans HYN0.out; clear HYN0
          have hyq := hb.size
          replace hys' : y0.heap.size + 1 ≤ ya.heap.size := Nat.le_trans hys' hyq; clear hyq
          have HYN0 := Lib.hid hyn; clear hyn
          clear hb
          refine hK _ _ ⟨fun _ => HS.out, ?_⟩; clear hK K
          refine mix_op rfl rfl (fun K hK => ?_)
          go_wp2_with fail
          have hwy := HS.out.size
          refine (REP.out ya Aq cq HS.out HRQ.out).mono ?_
          rintro e y2 ⟨A7, c7, rfl, hr7, hk7, hb⟩
          skip
          have hS := below_then HS.out hb HS.out.size; clear HS
          have HS := Lib.hid hS; clear hS
          have hYn := (hb.block y0.heap.size (by omega)).trans HYN0.out
          have hr7' : RepP y2 (fun b => y0.heap.size + 1 ≤ b ∧ b < y2.heap.size) Y1 A7 c7 := RepP.mono (fun b h => ⟨by omega, h.2⟩) (fun _ _ => rfl) _ _ _ hr7
          have hk7' : Sk y2 (y0.heap.size + 1) Y1 A7 := Sk.keep (Nat.le_refl _) (by omega) (fun _ _ _ => rfl) _ _ hk7
          have HYN := Lib.hid hYn; clear hYn
          have HR7 := Lib.hid hr7'; clear hr7' hr7
          have HK7S := Lib.hid hk7'; clear hk7' hk7 hb HYN0
          obtain ⟨z0, z1, z2, z3, z4⟩ := box_at HYN.out
          refine hK _ _ ⟨fun _ => HS.out, ?_⟩; clear hK K
          refine mix_take (v := .tuple #[.agg #[.int .i64 Y1.kind, .string Y1.name, .int .i64 Y1.sort, .slice A7 Y1.kids.length c7], .int .i64 E0]) rfl rfl (fun _ _ _ h => nomatch h.1) HS.out (fun Y hY => by obtain ⟨b0, b1, b2, b3⟩ := HF.out Y hY; (try simp only [Act.put]); go_simp) ?_
          refine mix_take (v := .agg #[.int .i64 Y1.kind, .string Y1.name, .int .i64 Y1.sort, .slice A7 Y1.kids.length c7]) rfl rfl (fun _ _ _ h => nomatch h.1) HS.out (fun Y hY => by obtain ⟨b0, b1, b2, b3⟩ := HF.out Y hY; (try simp only [Act.put]); go_simp) ?_
          refine mix_take (v := .int .i64 E0) rfl rfl (fun _ _ _ h => nomatch h.1) HS.out (fun Y hY => by obtain ⟨b0, b1, b2, b3⟩ := HF.out Y hY; (try simp only [Act.put]); go_simp) ?_
          simp only [Act.put, List.setIfInBounds_toArray]
          have hE4 : BoxT ((((y2.setCell ⟨y0.heap.size, 0, none⟩ (.int .i64 Y1.kind)).setCell ⟨y0.heap.size, 1, none⟩ (.string Y1.name)).setCell ⟨y0.heap.size, 2, none⟩ (.int .i64 Y1.sort)).setCell ⟨y0.heap.size, 3, none⟩ (.slice A7 Y1.kids.length c7)) y0.heap.size Y1 A7 c7 := ⟨heap_set4 HYN.out, RepP.mono (fun b ⟨_, h2⟩ => by simpa [World.setCell] using h2) (fun q ⟨h1, _⟩ => World.cell?_of_block (heap_set4_other (by omega))) _ _ _ HR7.out⟩
          have hK4 : Sk ((((y2.setCell ⟨y0.heap.size, 0, none⟩ (.int .i64 Y1.kind)).setCell ⟨y0.heap.size, 1, none⟩ (.string Y1.name)).setCell ⟨y0.heap.size, 2, none⟩ (.int .i64 Y1.sort)).setCell ⟨y0.heap.size, 3, none⟩ (.slice A7 Y1.kids.length c7)) w2.heap.size Y1 A7 := Sk.keep (by simp [World.setCell]) (by omega) (fun b h1 _ => heap_set4_other (by omega)) _ _ HK7S.out
          have hS4 : Below w2.heap.size w2 ((((y2.setCell ⟨y0.heap.size, 0, none⟩ (.int .i64 Y1.kind)).setCell ⟨y0.heap.size, 1, none⟩ (.string Y1.name)).setCell ⟨y0.heap.size, 2, none⟩ (.int .i64 Y1.sort)).setCell ⟨y0.heap.size, 3, none⟩ (.slice A7 Y1.kids.length c7)) := below_set4 HS.out hwb
          have HE4 := Lib.hid hE4; clear hE4
          have HS4 := Lib.hid hS4; clear hS4
          have HK7 := Lib.hid hK4; clear hK4 HK7S
          clear HS
          refine mix_op rfl rfl (fun K hK => ?_)
          go_wp2_with fail
          have HBX := HE4
          have HS := HS4
          clear HE4 HS4 z0 z1 z2 z3 z4
          generalize ((((y2.setCell ⟨y0.heap.size, 0, none⟩ (.int .i64 Y1.kind)).setCell ⟨y0.heap.size, 1, none⟩ (.string Y1.name)).setCell ⟨y0.heap.size, 2, none⟩ (.int .i64 Y1.sort)).setCell ⟨y0.heap.size, 3, none⟩ (.slice A7 Y1.kids.length c7)) = E at *
          refine ⟨fun _ => HS.out, ?_⟩
          refine mix_op rfl rfl (fun K hK => ?_)
          go_wp2_with fail
          exact ⟨fun _ => HS.out, mix_nil ⟨rfl, y0.heap.size, A7, c7, Aq, cq, rfl, HBX.out, HK7.out, HS.out⟩⟩
      · rintro a' E ⟨bx, A7, c7, Aq, cq, rfl, hbx, hk7, hbE⟩
        clear CLN REP ATM HS
        have H7 := Lib.hid hbx; clear hbx
        have SK7 := Lib.hid hk7; clear hk7
        have HS := Lib.hid hbE; clear hbE
        simp only [Act.put, List.setIfInBounds_toArray]
        rcases HE.out with he | he
        · clear HE; subst he
          skip
          obtain ⟨a0, a1, a2, a3⟩ := HF.out E HS.out
          have CON := Lib.hid (ATS.out E HS.out)
          go_wp2_with fail
          refine CON.out.mono ?_; clear CON a0 a1 a2 a3
          rintro e y8 ⟨A8, c8, rfl, hr8, hk8, hb8⟩
          obtain ⟨X8, hX⟩ : ∃ X, X = y8.alloc (.cells #[.int .i64 Y2.kind, .string Y2.name, .int .i64 Y2.sort, .slice A8 Y2.kids.length c8] 24) := ⟨_, rfl⟩
          have hbx : BoxT X8 y8.heap.size Y2 A8 c8 := by rw [hX]; exact BoxT.new (repT_of hr8)
          have hcz := HS.out.size
          have hk8' : Sk X8 w2.heap.size Y2 A8 := by rw [hX]; exact Sk.keep (by simp) hcz (fun b _ h2 => Below.heap_alloc _ _ _ h2) _ _ hk8
          have hS8 : Below w2.heap.size w2 y8 := below_then HS.out hb8 HS.out.size
          have hS : Below w2.heap.size w2 X8 := by rw [hX]; exact hS8.alloc hS8.size _
          clear HS hr8 hk8 hb8 hS8 hcz
          have HX := Lib.hid hX; clear hX
          have HS := Lib.hid hS; clear hS
          have H8 := Lib.hid hbx; clear hbx
          have SK8 := Lib.hid hk8'; clear hk8'
          obtain ⟨a0, a1, a2, a3⟩ := HF.out X8 HS.out
          rw [HX.out] at a0 a1 a2 a3
          obtain ⟨Z0, hZ0⟩ : ∃ Z, Z = X8.alloc (.cells (itCells [(t, A, cap)]).toArray 24) := ⟨_, rfl⟩
          have hzb : Below X8.heap.size X8 Z0 := by rw [hZ0]; exact below1 (Nat.le_refl _) _
          have hS := below_then HS.out hzb HS.out.size
          have hsl : RepS Z0 (fun b => b < Z0.heap.size) [t] (some ⟨X8.heap.size, 0, none⟩) 1 :=
            repS_cells [(t, A, cap)] (by rw [hZ0]; exact heap_alloc_new _ _) (by rw [hZ0]; simp) (fun x hx => by
              simp only [List.mem_cons, List.not_mem_nil, or_false] at hx
              subst hx
              exact (HXT.out.below hS).2) (by simp)
          simp only [itCells, Tm.cells, List.cons_append, List.nil_append] at hZ0
          have CON := Lib.hid (subterms_sk [t] _ 1 Z0 (by have := ST.out; simp only [Tm.sizes]; omega) hsl); clear hsl hzb HS
          have HS := Lib.hid hS; clear hS
          have hZs : X8.heap.size = y8.heap.size + 1 := by rw [HX.out]; simp
          rw [hZs] at CON
          rw [HX.out] at hZ0
          clear hZs
          have HZ0 := Lib.hid hZ0; clear hZ0
          go_wp2_with fail
          rw [← HZ0.out]
          refine CON.out.mono ?_; clear CON a0 a1 a2 a3 HZ0 HX
          rintro e wL ⟨vL, its, rfl, hrow, hbL, hmL, hkL⟩
          have hzs := HS.out.size
          have hSL := below_then HS.out hbL hzs; clear HS
          have HS := Lib.hid hSL; clear hSL
          obtain ⟨Ar, cr, rfl, -⟩ := hrow.form
          have hil : its.length ≤ 1000 := by
            have h1 : its.length = (Tm.set (Tm.alls [t])).length := by rw [← hmL, List.length_map]
            have h2 := Tm.set_length (Tm.alls [t])
            have h3 := Tm.alls_length [t]
            have h4 : Tm.sizes [t] = t.size := by simp [Tm.sizes]
            have := ST.out
            omega
          have hsz : ∀ x ∈ its, x.1.size ≤ 1000 := fun x hx => by
            have h1 : x.1 ∈ Tm.set (Tm.alls [t]) := by rw [← hmL]; exact List.mem_map_of_mem hx
            have h2 := Tm.mem_alls_size [t] x.1 ((Tm.mem_set _ _).1 h1)
            have h4 : Tm.sizes [t] = t.size := by simp [Tm.sizes]
            have := ST.out
            omega
          have hkL' : ∀ x ∈ its, Sk wL w2.heap.size x.1 x.2.1 := fun x hx => Sk.keep (Nat.le_refl _) hzs (fun _ _ _ => rfl) _ _ (hkL x hx)
          have HROW : Hid (RowT wL w2.heap.size (fun b => w2.heap.size ≤ b) (.slice Ar its.length cr) its) := hrow.loosen hzs (fun b hb => Nat.le_trans hzs hb)
          clear hrow hmL hkL hbL hzs
          have HSZ := Lib.hid hsz; clear hsz
          have HKL := Lib.hid hkL'; clear hkL'
          obtain ⟨nI, hnI⟩ : ∃ n, n = its.length := ⟨_, rfl⟩
          rw [← hnI] at HROW hil ⊢
          have HNI := Lib.hid hnI; clear hnI
          go_wp2_with fail
          go_loopw [53] (fun i wr => ∃ k : Nat, k ≤ nI ∧ i = .int .i64 k ∧ Hid (Below w2.heap.size w2 wr) ∧ Hid (Spl w2.heap.size wL wr)) (fun i _ => nI - (intOf i).toNat)
          case atStart => exact ⟨0, Nat.zero_le _, rfl, HS.out, Spl.refl _ _⟩
          case round =>
            obtain ⟨k, hk, rfl, HSR, HSP⟩ := hrel
            have i1 : (0 : Int) ≤ (k : Int) := Int.natCast_nonneg _
            by_cases hlt : k < nI
            · have i2 : (k : Int) < (nI : Int) := by omega
              have hk1 : k < its.length := by rw [← HNI.out]; exact hlt
              obtain ⟨g, rfl⟩ := HROW.out.some (by omega)
              obtain ⟨b0, b1, b2, b3, -⟩ := HROW.out.slot HNI.out k hk1
              obtain ⟨hg1, hg2⟩ := HROW.out.lt g rfl
              have hkk := HKL.out _ (List.getElem_mem hk1)
              have hsk := HSZ.out _ (List.getElem_mem hk1)
              obtain ⟨X, hX⟩ : ∃ X, X = its[k] := ⟨_, rfl⟩
              rw [← hX] at b0 b1 b2 b3 hkk hsk
              clear hX hk1
              obtain ⟨y, Ay, cy⟩ := X
              simp only at b0 b1 b2 b3 hkk hsk
              obtain ⟨x', e0⟩ := HSP.out.kind g (k * 4) _ hg1 hg2 (by omega) b0
              obtain ⟨y', e1⟩ := HSP.out.name g (k * 4 + 1) _ hg1 hg2 (by omega) b1
              have e2 := (HSP.out.rest g (k * 4 + 2) hg1 hg2 (by omega)).trans b2
              have e3 := (HSP.out.rest g (k * 4 + 3) hg1 hg2 (by omega)).trans b3
              have hky := Sk.spl HSP.out _ _ hkk
              have hgr : g < wr.heap.size := Nat.lt_of_lt_of_le hg2 HSP.out.size
              clear b0 b1 b2 b3 hkk hg1 hg2
              obtain ⟨W, hW⟩ : ∃ W, W = wr.alloc (.cells #[.int .i64 x', .string y', .int .i64 y.sort, .slice Ay y.kids.length cy] 24) := ⟨_, rfl⟩
              have hwb : Below wr.heap.size wr W := by rw [hW]; exact below1 (Nat.le_refl _) _
              have hSW := below_then HSR.out hwb HSR.out.size
              have hPW := HSP.out.trans (Spl.of_below hwb HSR.out.size)
              have hkW : Sk W w2.heap.size y Ay := Sk.spl (Spl.of_below hwb HSR.out.size) _ _ hky
              have CON := Lib.hid (spoil_any w2.heap.size 1000 y Ay cy x' y.sort y' W hsk (by decide) hSW.size hkW)
              clear hky hkW hwb HSR HSP hsk
              have HSW := Lib.hid hSW; clear hSW
              have HPW := Lib.hid hPW; clear hPW
              have HWW := Lib.hid hW; clear hW
              go_wp2_with fail
              rw [← HWW.out]
              refine CON.out.mono ?_; clear CON HWW e0 e1 e2 e3
              rintro e wn ⟨rfl, hsp⟩
              have hSn := HSW.out.trans hsp.below
              have hPn := HPW.out.trans hsp
              clear HSW HPW hsp
              have HSn := Lib.hid hSn; clear hSn
              have HPn := Lib.hid hPn; clear hPn
              go_wp2_with fail
              go_roundw
              case rel => exact ⟨k + 1, by omega, by go_num, HSn.out, HPn.out⟩
              case measure => simp [intOf]; omega
            · have hke : k = nI := by omega
              subst hke
              have i2 : ¬ ((k : Int) < (k : Int)) := by omega
              clear HS HSP HROW HSZ HKL
              obtain ⟨a0, a1, a2, a3⟩ := HF.out wr HSR.out
              have CON := Lib.hid (PA.out wr HSR.out)
              go_wp2_with fail
              refine CON.out.mono ?_; clear CON a0 a1 a2 a3
              rintro e wE ⟨rfl, hl⟩
              have hE := below_then HB.out (below_then HSR.out hl.below HSR.out.size) HB.out.size
              clear HSR hl HXT HF PA
              have HE2 := Lib.hid hE; clear hE
              go_wp2_with fail
              go_ret
              exact ⟨rfl, HE2.out⟩
        · clear HE; subst he
          skip
          obtain ⟨s0, s1, s2, s3, -⟩ := H7.out.cells
          have hcz := HS.out.size
          have CON := Lib.hid (spoil_any w2.heap.size 1000 Y1 A7 c7 Y1.kind Y1.sort Y1.name E SY1.out (by decide) hcz SK7.out); clear hcz
          have hbl := H7.out.lt
          go_wp2_with fail
          refine CON.out.mono ?_; clear CON
          rintro e E1 ⟨rfl, hsp⟩
          have hsn := HS.out.trans hsp.below; clear HS s0 s1 s2 s3 hbl hsp H7 SK7
          have HS := Lib.hid hsn; clear hsn
          obtain ⟨a0, a1, a2, a3⟩ := HF.out E1 HS.out
          have CON := Lib.hid (ATS.out E1 HS.out)
          go_wp2_with fail
          refine CON.out.mono ?_; clear CON a0 a1 a2 a3
          rintro e y8 ⟨A8, c8, rfl, hr8, hk8, hb8⟩
          obtain ⟨X8, hX⟩ : ∃ X, X = y8.alloc (.cells #[.int .i64 Y2.kind, .string Y2.name, .int .i64 Y2.sort, .slice A8 Y2.kids.length c8] 24) := ⟨_, rfl⟩
          have hbx : BoxT X8 y8.heap.size Y2 A8 c8 := by rw [hX]; exact BoxT.new (repT_of hr8)
          have hcz := HS.out.size
          have hk8' : Sk X8 w2.heap.size Y2 A8 := by rw [hX]; exact Sk.keep (by simp) hcz (fun b _ h2 => Below.heap_alloc _ _ _ h2) _ _ hk8
          have hS8 : Below w2.heap.size w2 y8 := below_then HS.out hb8 HS.out.size
          have hS : Below w2.heap.size w2 X8 := by rw [hX]; exact hS8.alloc hS8.size _
          clear HS hr8 hk8 hb8 hS8 hcz
          have HX := Lib.hid hX; clear hX
          have HS := Lib.hid hS; clear hS
          have H8 := Lib.hid hbx; clear hbx
          have SK8 := Lib.hid hk8'; clear hk8'
          obtain ⟨s0, s1, s2, s3, -⟩ := H8.out.cells
          have hcz := HS.out.size
          have CON := Lib.hid (spoil_any w2.heap.size 1000 Y2 A8 c8 Y2.kind Y2.sort Y2.name X8 SY2.out (by decide) hcz SK8.out); clear hcz
          have hbl := H8.out.lt
          rw [HX.out] at s0 s1 s2 s3 hbl
          go_wp2_with fail
          rw [← HX.out]
          refine CON.out.mono ?_; clear CON HX
          rintro e E2 ⟨rfl, hsp⟩
          have hsn := HS.out.trans hsp.below; clear HS s0 s1 s2 s3 hbl hsp H8 SK8
          have HS := Lib.hid hsn; clear hsn
          obtain ⟨a0, a1, a2, a3⟩ := HF.out E2 HS.out
          obtain ⟨Z0, hZ0⟩ : ∃ Z, Z = E2.alloc (.cells (itCells [(t, A, cap)]).toArray 24) := ⟨_, rfl⟩
          have hzb : Below E2.heap.size E2 Z0 := by rw [hZ0]; exact below1 (Nat.le_refl _) _
          have hS := below_then HS.out hzb HS.out.size
          have hsl : RepS Z0 (fun b => b < Z0.heap.size) [t] (some ⟨E2.heap.size, 0, none⟩) 1 :=
            repS_cells [(t, A, cap)] (by rw [hZ0]; exact heap_alloc_new _ _) (by rw [hZ0]; simp) (fun x hx => by
              simp only [List.mem_cons, List.not_mem_nil, or_false] at hx
              subst hx
              exact (HXT.out.below hS).2) (by simp)
          simp only [itCells, Tm.cells, List.cons_append, List.nil_append] at hZ0
          have CON := Lib.hid (subterms_sk [t] _ 1 Z0 (by have := ST.out; simp only [Tm.sizes]; omega) hsl); clear hsl hzb HS
          have HS := Lib.hid hS; clear hS
          have HZ0 := Lib.hid hZ0; clear hZ0
          go_wp2_with fail
          rw [← HZ0.out]
          refine CON.out.mono ?_; clear CON a0 a1 a2 a3 HZ0
          rintro e wL ⟨vL, its, rfl, hrow, hbL, hmL, hkL⟩
          have hzs := HS.out.size
          have hSL := below_then HS.out hbL hzs; clear HS
          have HS := Lib.hid hSL; clear hSL
          obtain ⟨Ar, cr, rfl, -⟩ := hrow.form
          have hil : its.length ≤ 1000 := by
            have h1 : its.length = (Tm.set (Tm.alls [t])).length := by rw [← hmL, List.length_map]
            have h2 := Tm.set_length (Tm.alls [t])
            have h3 := Tm.alls_length [t]
            have h4 : Tm.sizes [t] = t.size := by simp [Tm.sizes]
            have := ST.out
            omega
          have hsz : ∀ x ∈ its, x.1.size ≤ 1000 := fun x hx => by
            have h1 : x.1 ∈ Tm.set (Tm.alls [t]) := by rw [← hmL]; exact List.mem_map_of_mem hx
            have h2 := Tm.mem_alls_size [t] x.1 ((Tm.mem_set _ _).1 h1)
            have h4 : Tm.sizes [t] = t.size := by simp [Tm.sizes]
            have := ST.out
            omega
          have hkL' : ∀ x ∈ its, Sk wL w2.heap.size x.1 x.2.1 := fun x hx => Sk.keep (Nat.le_refl _) hzs (fun _ _ _ => rfl) _ _ (hkL x hx)
          have HROW : Hid (RowT wL w2.heap.size (fun b => w2.heap.size ≤ b) (.slice Ar its.length cr) its) := hrow.loosen hzs (fun b hb => Nat.le_trans hzs hb)
          clear hrow hmL hkL hbL hzs
          have HSZ := Lib.hid hsz; clear hsz
          have HKL := Lib.hid hkL'; clear hkL'
          obtain ⟨nI, hnI⟩ : ∃ n, n = its.length := ⟨_, rfl⟩
          rw [← hnI] at HROW hil ⊢
          have HNI := Lib.hid hnI; clear hnI
          go_wp2_with fail
          go_loopw [53] (fun i wr => ∃ k : Nat, k ≤ nI ∧ i = .int .i64 k ∧ Hid (Below w2.heap.size w2 wr) ∧ Hid (Spl w2.heap.size wL wr)) (fun i _ => nI - (intOf i).toNat)
          case atStart => exact ⟨0, Nat.zero_le _, rfl, HS.out, Spl.refl _ _⟩
          case round =>
            obtain ⟨k, hk, rfl, HSR, HSP⟩ := hrel
            have i1 : (0 : Int) ≤ (k : Int) := Int.natCast_nonneg _
            by_cases hlt : k < nI
            · have i2 : (k : Int) < (nI : Int) := by omega
              have hk1 : k < its.length := by rw [← HNI.out]; exact hlt
              obtain ⟨g, rfl⟩ := HROW.out.some (by omega)
              obtain ⟨b0, b1, b2, b3, -⟩ := HROW.out.slot HNI.out k hk1
              obtain ⟨hg1, hg2⟩ := HROW.out.lt g rfl
              have hkk := HKL.out _ (List.getElem_mem hk1)
              have hsk := HSZ.out _ (List.getElem_mem hk1)
              obtain ⟨X, hX⟩ : ∃ X, X = its[k] := ⟨_, rfl⟩
              rw [← hX] at b0 b1 b2 b3 hkk hsk
              clear hX hk1
              obtain ⟨y, Ay, cy⟩ := X
              simp only at b0 b1 b2 b3 hkk hsk
              obtain ⟨x', e0⟩ := HSP.out.kind g (k * 4) _ hg1 hg2 (by omega) b0
              obtain ⟨y', e1⟩ := HSP.out.name g (k * 4 + 1) _ hg1 hg2 (by omega) b1
              have e2 := (HSP.out.rest g (k * 4 + 2) hg1 hg2 (by omega)).trans b2
              have e3 := (HSP.out.rest g (k * 4 + 3) hg1 hg2 (by omega)).trans b3
              have hky := Sk.spl HSP.out _ _ hkk
              have hgr : g < wr.heap.size := Nat.lt_of_lt_of_le hg2 HSP.out.size
              clear b0 b1 b2 b3 hkk hg1 hg2
              obtain ⟨W, hW⟩ : ∃ W, W = wr.alloc (.cells #[.int .i64 x', .string y', .int .i64 y.sort, .slice Ay y.kids.length cy] 24) := ⟨_, rfl⟩
              have hwb : Below wr.heap.size wr W := by rw [hW]; exact below1 (Nat.le_refl _) _
              have hSW := below_then HSR.out hwb HSR.out.size
              have hPW := HSP.out.trans (Spl.of_below hwb HSR.out.size)
              have hkW : Sk W w2.heap.size y Ay := Sk.spl (Spl.of_below hwb HSR.out.size) _ _ hky
              have CON := Lib.hid (spoil_any w2.heap.size 1000 y Ay cy x' y.sort y' W hsk (by decide) hSW.size hkW)
              clear hky hkW hwb HSR HSP hsk
              have HSW := Lib.hid hSW; clear hSW
              have HPW := Lib.hid hPW; clear hPW
              have HWW := Lib.hid hW; clear hW
              go_wp2_with fail
              rw [← HWW.out]
              refine CON.out.mono ?_; clear CON HWW e0 e1 e2 e3
              rintro e wn ⟨rfl, hsp⟩
              have hSn := HSW.out.trans hsp.below
              have hPn := HPW.out.trans hsp
              clear HSW HPW hsp
              have HSn := Lib.hid hSn; clear hSn
              have HPn := Lib.hid hPn; clear hPn
              go_wp2_with fail
              go_roundw
              case rel => exact ⟨k + 1, by omega, by go_num, HSn.out, HPn.out⟩
              case measure => simp [intOf]; omega
            · have hke : k = nI := by omega
              subst hke
              have i2 : ¬ ((k : Int) < (k : Int)) := by omega
              clear HS HSP HROW HSZ HKL
              obtain ⟨a0, a1, a2, a3⟩ := HF.out wr HSR.out
              have CON := Lib.hid (PA.out wr HSR.out)
              go_wp2_with fail
              refine CON.out.mono ?_; clear CON a0 a1 a2 a3
              rintro e wE ⟨rfl, hl⟩
              have hE := below_then HB.out (below_then HSR.out hl.below HSR.out.size) HB.out.size
              clear HSR hl HXT HF PA
              have HE2 := Lib.hid hE; clear hE
              go_wp2_with fail
              go_ret
              exact ⟨rfl, HE2.out⟩
  · rw [decide_eq_false hle]
    go_wp2_with fail
    refine (awake_any w2 HW.out).mono ?_
    rintro e w3 ⟨rfl, hb3⟩
    go_wp2_with fail
    go_ret
    exact ⟨rfl, below_then HB.out hb3 HB.out.size⟩
end Go.Proofs.YtbgkabgbgbebaaaDoor
