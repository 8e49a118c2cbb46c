/- cast.set: sorted, each once. -/
import Derived.Test.YtpjmdilpldaapaaDoorGh
import Derived.Test.YtpjmdilpldaapaaDoorCterm
namespace Go.Proofs.YtpjmdilpldaapaaDoor
open Go.RowKit Go.Sort

set_option maxHeartbeats 1000000 in
set_option maxRecDepth 100000 in
theorem same_any (t u : Tm) (A A' : Option Addr) (cap cap' : Nat) (w : World) (ht : t.size ≤ 1000000) (hu : u.size ≤ 1000000) (hrep : RepT w w.heap.size t A cap) (hrep' : RepT w w.heap.size u A' cap') :
    Calls Tryd.prog 94 #[t.val A cap, u.val A' cap'] w fun e w' => e = .returned (.bool (t.same u)) ∧ Lay w.heap.size w w' := by
  have hL : Lay w.heap.size w ((w.alloc (.cells #[.int .i64 t.kind, .string t.name, .int .i64 t.sort, .slice A t.kids.length cap] 35)).alloc (.cells #[.int .i64 u.kind, .string u.name, .int .i64 u.sort, .slice A' u.kids.length cap'] 35)) :=
    ((Lay.refl _ _).alloc (Nat.le_refl _) _).alloc (by simp) _
  have hC := compare_any 1000000 t u A A' cap cap' _ ht (by omega) hu (hrep.go hL.below hL.size) (hrep'.go hL.below hL.size)
  have HC := Lib.hid hC; clear hC
  have e : t.same u = (t.cmp u == 0) := by unfold Tm.same; rw [Bool.eq_iff_iff]; simp
  rw [e]
  generalize t.cmp u = c at *
  simp only [Tm.val] at HC ⊢
  go_enter Tryd.func94, Tryd.ntmps94
  go_wp2_with fail
  refine HC.out.mono ?_
  rintro e w' ⟨rfl, hl⟩
  go_wp2_with fail
  go_ret
  exact ⟨rfl, hL.trans (hl.mono hL.size)⟩

/- what CompactFunc leaves of a list of items -/
set_option maxHeartbeats 4000000 in
set_option maxRecDepth 100000 in
theorem compact_any (w : World) (base g cap n : Nat) (F : Nat → Prop) (its : List It) (hn : n = its.length) (hn2 : n ≤ 10000000) (hrow : RowT w base F (.slice (some ⟨g, 0, none⟩) n cap) its) (hsz : ∀ x ∈ its, x.1.size ≤ 1000000) :
    Calls Tryd.prog 93 #[.slice (some ⟨g, 0, none⟩) n cap, .func (.func 94) #[] #[]] w (Compacted w base F (.slice (some ⟨g, 0, none⟩) n cap) its) := by
  subst hn
  have mixed : Tryd.prog.follows .mixedOrders = true := by kernel_rfl
  have eg : ∀ args w, (callFunc 94 args).run Tryd.prog w = .ok (.enter 94 args) w := enters_of Tryd.func94 (by kernel_rfl) rfl
  by_cases hshort : its.length < 2
  · have hc : comp its = its := by
      match its, hshort with
      | [], _ => rfl
      | [x], _ => rfl
    have HC := Lib.hid hc; clear hc
    go_enter Tryd.func93, Tryd.ntmps93
    go_wp2_with fail
    go_ret
    exact ⟨_, rfl, by rw [HC.out]; exact hrow, grown_lay (Lay.refl _ _) _, rfl⟩
  · have hgl := (hrow.lt g rfl).2
    have hcap : its.length ≤ cap := by
      rcases hrow.own.2 with ⟨hv, _⟩ | ⟨g', cap', cur, hv, _, _, hnc, _⟩
      · cases hv
      · injection hv with _ _ h3; subst h3; exact hnc
    have hb0 : decide ((its.length : Int) < 2) = false := by simp; omega
    go_enter Tryd.func93, Tryd.ntmps93
    go_wp2_with fail
    go_loopw [5] (fun i wr => ∃ m : Nat, 1 ≤ m ∧ m ≤ its.length ∧ i = .int .i64 m ∧ Hid (∀ i, (h : i + 1 < its.length) → i + 1 < m → its[i + 1].1.same its[i].1 = false) ∧ Lay w.heap.size w wr)
      (fun i _ => its.length - (intOf i).toNat)
    case atStart => exact ⟨1, Nat.le_refl _, by omega, rfl, fun i h h' => absurd h' (by omega), Lay.refl _ _⟩
    case round =>
      obtain ⟨m, hm, hml, rfl, HD, hlay⟩ := hrel
      by_cases hlt : m < its.length
      · have hrow' := hrow.below hlay.below
        have hs := hlay.size
        obtain ⟨j, hj⟩ : ∃ j, j + 1 = m := ⟨m - 1, by omega⟩
        have hjl : j < its.length := by omega
        obtain ⟨a0, a1, a2, a3⟩ := hrow'.slot_grown rfl m hlt
        obtain ⟨b0, b1, b2, b3⟩ := hrow'.slot_grown rfl j hjl
        have hrep : ∀ i (h : i < its.length) X, Lay wr.heap.size wr X → RepT X X.heap.size its[i].1 its[i].2.1 its[i].2.2 := fun i h X hX =>
          RepP.mono (fun b ⟨_, h2, _⟩ => Nat.lt_of_lt_of_le h2 hX.size) (fun p ⟨_, h2, _⟩ => hX.below.cell h2) _ _ _ (hrow'.reps _ (List.getElem_mem h))
        have CK : Hid (∀ X, Lay wr.heap.size wr X → Calls Tryd.prog 94 #[its[m].1.val its[m].2.1 its[m].2.2, its[j].1.val its[j].2.1 its[j].2.2] X fun e w' => e = .returned (.bool (its[m].1.same its[j].1)) ∧ Lay X.heap.size X w') := fun X hX =>
          same_any _ _ _ _ _ _ X (hsz _ (List.getElem_mem _)) (hsz _ (List.getElem_mem _)) (hrep m hlt X hX) (hrep j hjl X hX)
        have hwrap : IntKind.i64.wrap ((m : Int) - 1) = (j : Int) := by rw [show (m : Int) - 1 = j by omega]; exact IntWalk.i64_in _ (by omega)
        have i1 : (0 : Int) ≤ (j : Int) := Int.natCast_nonneg _
        have i2 : (m : Int) < (its.length : Int) := by omega
        have i3 : (j : Int) < (its.length : Int) := by omega
        obtain ⟨c, hc⟩ : ∃ c, c = its[m].1.same its[j].1 := ⟨_, rfl⟩
        rw [← hc] at CK
        have HC := Lib.hid hc; clear hc
        have HREP := Lib.hid hrep; clear hrep
        have HROW := Lib.hid hrow'; clear hrow'
        simp only [Tm.val] at CK
        cases c with
        | false =>
          go_wp2_with fail
          go_quiet_grown ((go_at_call 94; exact quiet_lay (CK.out _ (Lay.of_grow _ _))))
          go_wp2_with fail
          go_roundw
          case rel =>
            refine ⟨m + 1, by omega, by omega, by go_num, fun i h h' => ?_, hlay.trans ((Lay.of_grow _ _).mono hs)⟩
            by_cases e : i = j
            · subst e; subst hj; exact HC.out.symm
            · exact HD.out i h (by omega)
          case measure => simp [intOf]; omega
        | true =>
          go_wp2_with fail
          go_quiet_grown ((go_at_call 94; exact quiet_lay (CK.out _ (Lay.of_grow _ _))))
          go_wp2_with fail
          have hX : Lay wr.heap.size wr (grow (wr.drewN nq) osq) := Lay.of_grow _ _
          have hrow0 := HROW.out.below hX.below
          have hgrow0 : w.grownBy (grow (wr.drewN nq) osq) (some g) := grown_lay (hlay.trans (hX.mono hs)) _
          have hstart : its.take m ++ compTail its[m].1 (its.drop (m + 1)) = comp its := by
            have h2 := HD.out
            have h3 := HC.out
            subst hj
            match its, hlt, hjl, h2, h3 with
            | x :: l, hlt, hjl, h2, h3 =>
              rw [comp, comp_split l x j hjl (fun i h h' => h2 i h (by omega))]
              have hjl' : j < l.length := by simpa using hlt
              rw [List.drop_eq_getElem_cons hjl', compTail]
              simp only [List.getElem_cons_succ] at h3 ⊢
              rw [← h3]
              simp
          have HST := Lib.hid hstart; clear hstart
          clear HD HREP HROW CK HC a0 a1 a2 a3 b0 b1 b2 b3
          have HR0 := Lib.hid hrow0; clear hrow0
          have HG0 := Lib.hid hgrow0; clear hgrow0
          have HSZ := Lib.hid hsz; clear hsz
          clear hlay hs hX hrow hwrap
          generalize grow (wr.drewN nq) osq = X0 at *
          go_loopw [5, 7] (fun a b wr => ∃ (k d : Nat) (cur : List It), a = .int .i64 k ∧ b = .int .i64 d ∧ 1 ≤ k ∧ k + 1 ≤ m + d ∧ 1 ≤ d ∧ m + d ≤ its.length ∧ Hid (RowT wr base F (.slice (some ⟨g, 0, none⟩) its.length cap) cur) ∧
            cur.length = its.length ∧ Hid (∃ h : m + d - 1 < its.length, cur.take k ++ compTail its[m + d - 1].1 (its.drop (m + d)) = comp its) ∧ Hid (cur.drop (m + d - 1) = its.drop (m + d - 1)) ∧ Hid (∀ x ∈ cur, x ∈ its) ∧ Hid (w.grownBy wr (some g)))
            (fun _ b _ => its.length - (intOf b).toNat)
          case atStart => exact ⟨m, 1, its, rfl, rfl, hm, Nat.le_refl _, Nat.le_refl _, hlt, HR0.out, rfl, ⟨hlt, HST.out⟩, rfl, fun _ h => h, HG0.out⟩
          case round =>
            obtain ⟨k, d, cur, rfl, rfl, hk1, hkd, hd1, hmd, HR, HL, HT, HDr, HM, HG⟩ := hrel
            by_cases hlt2 : m + d < its.length
            · obtain ⟨e, he⟩ : ∃ e, e + 1 = d := ⟨d - 1, by omega⟩
              have hel : m + e < its.length := by omega
              have q1 : cur[m + d] = its[m + d] := drop_get HDr.out _ (by omega) _ _
              have q0 : cur[m + e] = its[m + e] := drop_get HDr.out _ (by omega) _ _
              obtain ⟨a0, a1, a2, a3⟩ := HR.out.slot_grown HL.symm (m + d) (by omega)
              obtain ⟨b0, b1, b2, b3⟩ := HR.out.slot_grown HL.symm (m + e) (by omega)
              rw [q1] at a0 a1 a2 a3
              rw [q0] at b0 b1 b2 b3
              rw [Nat.add_mul] at a0 a1 a2 a3 b0 b1 b2 b3
              have hrep : ∀ x ∈ cur, ∀ X, Lay wr.heap.size wr X → RepP X (fun b => F b ∧ b < X.heap.size ∧ g ≠ b) x.1 x.2.1 x.2.2 := fun x hx X hX =>
                RepP.mono (fun b ⟨h1, h2, h3⟩ => ⟨h1, Nat.lt_of_lt_of_le h2 hX.size, fun e => h3 (by rw [e]; rfl)⟩) (fun p ⟨_, h2, _⟩ => hX.below.cell h2) _ _ _ (HR.out.reps _ hx)
              have hrt : ∀ x ∈ cur, ∀ X, Lay wr.heap.size wr X → RepT X X.heap.size x.1 x.2.1 x.2.2 := fun x hx X hX => RepP.mono (fun b h => h.2.1) (fun _ _ => rfl) _ _ _ (hrep x hx X hX)
              have HREP := Lib.hid hrep; clear hrep
              have CK : Hid (∀ X, Lay wr.heap.size wr X → Calls Tryd.prog 94 #[its[m + d].1.val its[m + d].2.1 its[m + d].2.2, its[m + e].1.val its[m + e].2.1 its[m + e].2.2] X fun e' w' => e' = .returned (.bool (its[m + d].1.same its[m + e].1)) ∧ Lay X.heap.size X w') := fun X hX =>
                same_any _ _ _ _ _ _ X (HSZ.out _ (List.getElem_mem _)) (HSZ.out _ (List.getElem_mem _)) (by rw [← q1]; exact hrt _ (List.getElem_mem _) X hX) (by rw [← q0]; exact hrt _ (List.getElem_mem _) X hX)
              clear hrt
              have hwrap : IntKind.i64.wrap ((d : Int) - 1) = (e : Int) := by rw [show (d : Int) - 1 = e by omega]; exact IntWalk.i64_in _ (by omega)
              have i1 : (0 : Int) ≤ (e : Int) := Int.natCast_nonneg _
              have i2 : (d : Int) < ((its.length - m : Nat) : Int) := by omega
              have i3 : (e : Int) < ((its.length - m : Nat) : Int) := by omega
              obtain ⟨c, hc⟩ : ∃ c, c = its[m + d].1.same its[m + e].1 := ⟨_, rfl⟩
              rw [← hc] at CK
              have HC := Lib.hid hc; clear hc
              have Q1 := Lib.hid q1; clear q1
              have Q0 := Lib.hid q0; clear q0
              simp only [Tm.val] at CK
              have hnext : its.drop (m + d) = its[m + d] :: its.drop (m + d + 1) := List.drop_eq_getElem_cons hlt2
              have HN := Lib.hid hnext; clear hnext
              cases c with
              | true =>
                go_wp2_with fail
                go_quiet_grown ((go_at_call 94; exact quiet_lay (CK.out _ (Lay.of_grow _ _))))
                go_wp2_with fail
                have hX : Lay wr.heap.size wr (grow (wr.drewN nq) osq) := Lay.of_grow _ _
                go_roundw
                case rel =>
                  refine ⟨k, d + 1, cur, rfl, by go_num, hk1, by omega, by omega, by omega, HR.out.below hX.below, HL, ?_, ?_, HM, ?_⟩
                  · obtain ⟨h, h2⟩ := HT.out
                    refine ⟨by omega, ?_⟩
                    have hc := HC.out.symm
                    have e1 : its[m + e] = its[m + d - 1] := getElem_congr_idx (by omega)
                    have e2 : its[m + (d + 1) - 1] = its[m + d] := getElem_congr_idx (by omega)
                    rw [e1] at hc
                    rw [HN.out, compTail, hc, if_pos rfl] at h2
                    rw [e2]
                    exact h2
                  · exact drop_more HDr.out (by omega)
                  · exact HG.out.trans (grown_lay hX _)
                case measure => simp [intOf]; omega
              | false =>
                go_wp2_with fail
                go_quiet_grown ((go_at_call 94; exact quiet_lay (CK.out _ (Lay.of_grow _ _))))
                have hX : Lay wr.heap.size wr (grow (wr.drewN nq) osq) := Lay.of_grow _ _
                have hRX := HR.out.below hX.below
                obtain ⟨k0, k1, k2, k3, k4⟩ := hRX.slot HL.symm k (by omega)
                have HX := Lib.hid hX; clear hX
                have HRX := Lib.hid hRX; clear hRX
                have a0' := a0 nq osq
                have a1' := a1 nq osq
                have a2' := a2 nq osq
                have a3' := a3 nq osq
                clear a0 a1 a2 a3 b0 b1 b2 b3
                have hGX : (wr.grownBy (grow (wr.drewN nq) osq) (some g)) := grown_lay HX.out _
                have HGX := Lib.hid hGX; clear hGX
                have HIN : Hid (∀ x ∈ cur, RepP (grow (wr.drewN nq) osq) (fun b => F b ∧ b < (grow (wr.drewN nq) osq).heap.size ∧ g ≠ b) x.1 x.2.1 x.2.2) := fun x hx => HREP.out x hx _ HX.out
                clear HREP CK HX
                generalize grow (wr.drewN nq) osq = Z at *
                have k5 : (k : Int) < (its.length : Int) := by omega
                generalize cur[k] = old at k0 k1 k2 k3
                go_wp2_with fail
                go_roundw
                case rel =>
                  refine ⟨k + 1, d + 1, cur.set k its[m + d], by go_num, by go_num, by omega, by omega, by omega, by omega, HRX.out.set HL.symm k (by omega) _ ?_, by rw [List.length_set]; exact HL, ?_, ?_, ?_, ?_⟩
                  · rw [← Q1.out]; exact HIN.out _ (List.getElem_mem _)
                  · obtain ⟨h, h2⟩ := HT.out
                    refine ⟨by omega, ?_⟩
                    have hc := HC.out.symm
                    have e1 : its[m + e] = its[m + d - 1] := getElem_congr_idx (by omega)
                    have e2 : its[m + (d + 1) - 1] = its[m + d] := getElem_congr_idx (by omega)
                    rw [e1] at hc
                    rw [HN.out, compTail, hc] at h2
                    simp only [Bool.false_eq_true, if_false] at h2
                    rw [e2, take_set_self _ _ _ (by omega), List.append_assoc]
                    exact h2
                  · rw [List.drop_set_of_lt (by omega)]; exact drop_more HDr.out (by omega)
                  · intro x hx
                    rcases List.mem_or_eq_of_mem_set hx with hx | rfl
                    · exact HM.out x hx
                    · exact List.getElem_mem _
                  · exact HG.out.trans (HGX.out.trans (grown_set4 _ _ _ _ _ _ _ _ _ _))
                case measure => simp [intOf]; omega
            · have hq : m + d = its.length := by omega
              have hres : cur.take k = comp its := by
                obtain ⟨h, h2⟩ := HT.out
                rwa [List.drop_eq_nil_of_le (by omega), compTail, List.append_nil] at h2
              obtain ⟨wc, hcl, hrc, hgc⟩ := HR.out.clear HL.symm k (by omega)
              rw [hres] at hrc
              have HRC := Lib.hid hrc; clear hrc
              have HGC := Lib.hid hgc; clear hgc
              have hck : ¬ cap = k := by omega
              go_wp2_with fail
              go_ret
              exact ⟨_, rfl, HRC.out, HG.out.trans HGC.out, rfl⟩
      · have hm2 : m = its.length := by omega
        have hcomp : comp its = its := by
          have h2 := HD.out
          match its, h2 with
          | [], _ => rfl
          | x :: l, h2 => exact congrArg (x :: ·) (comp_distinct l x (fun i h => h2 i h (by omega)))
        have HC := Lib.hid hcomp; clear hcomp
        go_wp2_with fail
        go_ret
        exact ⟨_, rfl, by rw [HC.out]; exact hrow.below hlay.below, grown_lay hlay _, rfl⟩

/-- a row of these terms, in order and each once -/
def CSetOf (w : World) (base : Nat) (F : Nat → Prop) (v : Value) (l : List Tm) (e : Ending) (w' : World) : Prop :=
  ∃ v' its', e = .returned v' ∧ RowT w' base F v' its' ∧ its'.map (·.1) = Tm.set l ∧ w.grownBy w' v.ownBlock ∧ v'.ownBlock = v.ownBlock

set_option maxHeartbeats 1000000 in
theorem cset_any (w : World) (base : Nat) (F : Nat → Prop) (v : Value) (its : List It) (hn2 : its.length ≤ 10000000) (hrow : RowT w base F v its) (hsz : ∀ x ∈ its, x.1.size ≤ 1000000) :
    Calls Tryd.prog 72 #[v] w (CSetOf w base F v (its.map (·.1))) := by
  rcases hrow.own.2 with ⟨rfl, h0⟩ | ⟨g, cap, cur, rfl, -⟩
  · have : its = [] := List.eq_nil_of_length_eq_zero h0
    subst this
    have hS := (AnyF.slices_SortFunc_none (P := Tryd.prog) Tryd.sortTerm none 0 (.func (.func 92) #[] #[]) w)
    have HS := Lib.hid hS; clear hS
    go_enter Tryd.func72, Tryd.ntmps72
    go_wp2_with fail
    refine HS.out.mono ?_
    rintro e w' ⟨rfl, rfl⟩
    go_wp2_with fail
    refine (compact_nil _ _).mono ?_
    rintro e w' ⟨rfl, rfl⟩
    go_wp2_with fail
    go_ret
    exact ⟨_, [], rfl, RowT.nil _ _ _, rfl, grown_lay (Lay.refl _ _) _, rfl⟩
  · by_cases hpos : 0 < its.length
    · have hS := sort_any w base g cap its.length F its rfl hpos hn2 hrow hsz
      have HS := Lib.hid hS; clear hS
      go_enter Tryd.func72, Tryd.ntmps72
      go_wp2_with fail
      refine HS.out.mono ?_
      rintro e w1 ⟨rfl, its1, hperm, hle, hrow1, hg1⟩
      have hC := compact_any w1 base g cap its.length F its1 hperm.length_eq.symm hn2 hrow1 (fun x hx => hsz x (hperm.mem_iff.1 hx))
      have HC := Lib.hid hC; clear hC
      go_wp2_with fail
      refine HC.out.mono ?_
      rintro e w2 ⟨v2, rfl, hrow2, hg2, hv2⟩
      have hasc := comp_asc its1 hle
      have hmem : ∀ t, t ∈ (comp its1).map (·.1) ↔ t ∈ its.map (·.1) := fun t => by rw [mem_comp, (hperm.map _).mem_iff]
      have HSET := Lib.hid (Tm.set_eq hasc hmem)
      have HG := Lib.hid (hg1.trans hg2)
      have HV := Lib.hid hv2
      have HR := Lib.hid hrow2
      clear hasc hmem hg1 hg2 hv2 hrow2 HS HC hle hrow1 hperm
      go_wp2_with fail
      go_ret
      exact ⟨v2, comp its1, rfl, HR.out, HSET.out, HG.out, HV.out⟩
    · have hn0 : its = [] := List.eq_nil_of_length_eq_zero (by omega)
      subst hn0
      have hS := (AnyF.slices_SortFunc_none (P := Tryd.prog) Tryd.sortTerm (some ⟨g, 0, none⟩) cap (.func (.func 92) #[] #[]) w)
      have HS := Lib.hid hS; clear hS
      have HC := Lib.hid (compact_any w base g cap 0 F [] rfl (by omega) hrow (fun x hx => by simp at hx))
      simp only [List.length_nil]
      go_enter Tryd.func72, Tryd.ntmps72
      go_wp2_with fail
      refine HS.out.mono ?_
      rintro e w' ⟨rfl, rfl⟩
      go_wp2_with fail
      refine HC.out.mono ?_
      rintro e w2 ⟨v2, rfl, hrow2, hg2, hv2⟩
      have HG := Lib.hid hg2
      have HV := Lib.hid hv2
      have HR := Lib.hid hrow2
      clear hg2 hv2 hrow2 HC HS
      go_wp2_with fail
      go_ret
      exact ⟨v2, [], rfl, HR.out, rfl, HG.out, HV.out⟩
end Go.Proofs.YtpjmdilpldaapaaDoor
