/- The reference's suffixed. -/
import Derived.Test.YtpjmdilpldaapaaDoorCinst
import Derived.Test.YtpjmdilpldaapaaDoorCsat
import Derived.Test.YtpjmdilpldaapaaDoorCfind
import Derived.Test.YtpjmdilpldaapaaDoorCkeys
import Derived.Deep.Cut
namespace Go.Proofs.YtpjmdilpldaapaaDoor
open Go.RowKit Go.Sort

theorem RepS.fwd0 {w w' : World} {l : List Tm} {A : Option Addr} {cap : Nat} (h : RepS w (fun b => b < w.heap.size) l A cap) (hb : Below w.heap.size w w') : RepS w' (fun b => b < w'.heap.size) l A cap :=
  RepS.mono (fun b (h : b < w.heap.size) => Nat.lt_of_lt_of_le h hb.size) (fun _ hp => hb.cell hp) h
set_option linter.unusedSimpArgs false in
set_option linter.unusedVariables false in
set_option maxHeartbeats 8000000 in
set_option maxRecDepth 100000 in
theorem suff_any (suf : ByteArray) (hsuf : suf.size ≤ 100) (n : Nat) : ∀ (t : Tm) (A : Option Addr) (cap : Nat) (w : World), t.size ≤ n → n ≤ 1000000 → t.check = 0 → RepT w w.heap.size t A cap →
    Calls Tryd.prog 57 #[t.val A cap, .string suf] w (InstOf (t.inst suf) (t.instOk suf) w) := by
  induction n with
  | zero => intro t _ _ _ h; have := t.size_pos; omega
  | succ n ih =>
    intro t A cap w hn hb hchk hrep
    obtain ⟨tk, tn, ts, l⟩ := t
    obtain ⟨hnm, hkc⟩ := check_parts hchk
    rw [Tm.inst_mk, Tm.instOk_mk]
    rw [Tm.size] at hn
    rw [RepT_mk] at hrep
    obtain ⟨hr1, hr2⟩ := hrep
    have hls := Tm.length_le_sizes l
    obtain ⟨W1, hW1⟩ : ∃ W1, W1 = w.alloc (.cells #[.int .i64 tk, .string tn, .int .i64 ts, .slice A l.length cap] 35) := ⟨_, rfl⟩
    obtain ⟨W2, hW2⟩ : ∃ W2, W2 = W1.alloc (.cells #[.int .i64 0, .string ⟨#[]⟩, .int .i64 0, .slice none 0 0] 35) := ⟨_, rfl⟩
    have s1 : W1.heap.size = w.heap.size + 1 := by rw [hW1]; simp
    have s2 : W2.heap.size = w.heap.size + 1 + 1 := by rw [hW2]; simp [s1]
    have b1 : Below w.heap.size w W1 := by rw [hW1]; exact below1 (Nat.le_refl _) _
    have b2 : Below W1.heap.size W1 W2 := by rw [hW2]; exact below1 (Nat.le_refl _) _
    have hB : Below w.heap.size w W2 := b1.trans (b2.mono (by omega))
    have hx1 : W2.heap[w.heap.size]? = some (.cells #[.int .i64 tk, .string tn, .int .i64 ts, .slice A l.length cap] 35 (0, 0)) := by rw [b2.block _ (by omega), hW1]; exact heap_alloc_new _ _
    have hx2 : W2.heap[w.heap.size + 1]? = some (.cells #[.int .i64 0, .string ⟨#[]⟩, .int .i64 0, .slice none 0 0] 35 (0, 0)) := by rw [hW2, ← s1]; exact heap_alloc_new _ _
    have HW : Hid (W2 = (w.alloc (.cells #[.int .i64 tk, .string tn, .int .i64 ts, .slice A l.length cap] 35)).alloc (.cells #[.int .i64 0, .string ⟨#[]⟩, .int .i64 0, .slice none 0 0] 35)) := by rw [hW2, hW1]; exact rfl
    obtain ⟨r0, r1, r2, r3, rf⟩ := box_at hx1
    have RM := Lib.hid (rhash_any tn W2 (by unfold maxLen; omega))
    have HX1 := Lib.hid hx1; clear hx1
    have HX2 := Lib.hid hx2; clear hx2
    have HB := Lib.hid hB; clear hB b1 b2 hW1 hW2 s1
    have IH := Lib.hid ih; clear ih
    have HRL := Lib.hid hr2; clear hr2
    have HKC := Lib.hid hkc; clear hkc
    have HS2 := Lib.hid s2; clear s2
    obtain ⟨nm, hnm2⟩ : ∃ nm, nm = insN suf tk tn ts := ⟨_, rfl⟩
    obtain ⟨ft, hft⟩ : ∃ ft, ft = fitN suf tk tn ts := ⟨_, rfl⟩
    rw [← hnm2, ← hft]
    unfold fitN at hft
    rw [← hnm2] at hft
    unfold insN at hnm2
    have HNM := Lib.hid hnm2; have HFT := Lib.hid hft
    clear hnm2 hft hchk
    simp only [Tm.val, Tm.kind, Tm.name, Tm.sort, Tm.kids] at ⊢
    have HWZ : Hid (W2.heap.size = w.heap.size + 1 + 1) := HS2
    go_enter Tryd.func57, Tryd.ntmps57
    have HNS0 : Hid (tn.size ≤ maxLen) := Lib.hid hr1
    obtain ⟨gB, hgB⟩ : ∃ g, g = (decide (tn = ⟨#[103]⟩) && decide (ts = 4)) := ⟨_, rfl⟩
    obtain ⟨cnd, hcnd⟩ : ∃ c, c = (decide (tk = 2) && !remB tn ts) := ⟨_, rfl⟩
    have HGB := Lib.hid hgB; have HCN := Lib.hid hcnd
    clear hgB hcnd
    go_upto_region 1 with fail
    rw [← HW.out]
    clear HW
    go_cut [6] from 12 (fun v wr => v = .bool gB ∧ W2 = wr)
    case first =>
      refine (Classical.em (tn = ⟨#[103]⟩)).elim (fun hg => ?p1) (fun hg => ?n1)
      case p1 =>
        have hb2 : tn.toList = [103] := by rw [hg, ByteArray.toList_eq]
        have hb : (tn.toList == [103]) = true := by rw [beq_iff_eq]; exact hb2
        have HGT : Hid (decide (tn = ⟨#[103]⟩) = true) := Lib.hid (decide_eq_true hg)
        clear hg
        go_wp2_with fail
        go_meet
        case rel => exact ⟨by rw [HGB.out, HGT.out]; rfl, rfl⟩
      case n1 =>
        have hne : tn.toList ≠ [103] := fun h => hg (ByteArray.ext (Array.toList_inj.1 (by rw [← ByteArray.toList_eq]; exact h)))
        have hb : (tn.toList == [103]) = false := by rw [beq_eq_false_iff_ne]; exact hne
        have HGT : Hid (decide (tn = ⟨#[103]⟩) = false) := Lib.hid (decide_eq_false hg)
        clear hg
        go_wp2_with fail
        go_meet
        case rel => exact ⟨by rw [HGB.out, HGT.out]; rfl, rfl⟩
    case rest =>
    obtain ⟨rfl, hwc⟩ := hcut
    subst hwc
    go_upto_region 2 with fail
    go_cut [42] from 12 (fun v wr => v = .bool cnd ∧ W2 = wr)
    case first =>
      refine (Classical.em (tk = 2)).elim (fun hk => ?p5) (fun hk => ?n5)
      case p5 =>
        have etk2 : (tk == 2) = true := by rw [beq_iff_eq]; exact hk
        have ntk2 : (tk != 2) = false := by unfold bne; rw [etk2]; rfl
        refine (Classical.em (ts = 1)).elim (fun h1 => ?p4) (fun h1 => ?n4)
        case p4 =>
          have hrm : remB tn ts = true := by unfold remB; rw [decide_eq_true h1]; rfl
          have ets1 : (ts == 1) = true := by rw [beq_iff_eq]; exact h1
          have nts1 : (ts != 1) = false := by unfold bne; rw [ets1]; rfl
          have hcc : cnd = false := by rw [HCN.out, decide_eq_true hk, hrm]; rfl
          subst hcc
          clear HCN hk
          clear h1 hrm
          go_wp2_with fail
          go_meet
          case rel => exact ⟨rfl, rfl⟩
        case n4 =>
          have ets1 : (ts == 1) = false := by rw [beq_eq_false_iff_ne]; exact h1
          have nts1 : (ts != 1) = true := by unfold bne; rw [ets1]; rfl
          refine (Classical.em (ts = 5)).elim (fun h5 => ?p3) (fun h5 => ?n3)
          case p3 =>
            have hrm : remB tn ts = true := by unfold remB; rw [decide_eq_true h5, Bool.or_true]; rfl
            have ets5 : (ts == 5) = true := by rw [beq_iff_eq]; exact h5
            have nts5 : (ts != 5) = false := by unfold bne; rw [ets5]; rfl
            have hcc : cnd = false := by rw [HCN.out, decide_eq_true hk, hrm]; rfl
            subst hcc
            clear HCN hk
            clear h5 hrm
            go_wp2_with fail
            go_meet
            case rel => exact ⟨rfl, rfl⟩
          case n3 =>
            have ets5 : (ts == 5) = false := by rw [beq_eq_false_iff_ne]; exact h5
            have nts5 : (ts != 5) = true := by unfold bne; rw [ets5]; rfl
            have hrr : remB tn ts = (hashB tn || gB) := by unfold remB; rw [decide_eq_false h1, decide_eq_false h5, HGB.out]; rfl
            clear h1 h5
            refine (Bool.eq_false_or_eq_true (hashB tn)).elim (fun hh => ?p2) (fun hh => ?n2)
            case p2 =>
              rw [hh] at RM
              have hcc : cnd = false := by rw [HCN.out, decide_eq_true hk, hrr, hh]; rfl
              subst hcc
              clear HCN hk
              clear hh hrr
              go_wp2_with fail
              refine RM.out.mono ?_
              rintro e wh ⟨rfl, hwh⟩
              subst hwh
              go_wp2_with fail
              go_meet
              case rel => exact ⟨rfl, rfl⟩
            case n2 =>
              rw [hh, Bool.false_or] at hrr
              rw [hh] at RM
              clear hh
              clear HGB
              cases gB
              · have hcc : cnd = true := by rw [HCN.out, decide_eq_true hk, hrr]; rfl
                subst hcc
                clear HCN hk
                clear hrr
                go_wp2_with fail
                refine RM.out.mono ?_
                rintro e wh ⟨rfl, hwh⟩
                subst hwh
                go_wp2_with fail
                go_meet
                case rel => exact ⟨rfl, rfl⟩
              · have hcc : cnd = false := by rw [HCN.out, decide_eq_true hk, hrr]; rfl
                subst hcc
                clear HCN hk
                clear hrr
                go_wp2_with fail
                refine RM.out.mono ?_
                rintro e wh ⟨rfl, hwh⟩
                subst hwh
                go_wp2_with fail
                go_meet
                case rel => exact ⟨rfl, rfl⟩
      case n5 =>
        have etk2 : (tk == 2) = false := by rw [beq_eq_false_iff_ne]; exact hk
        have ntk2 : (tk != 2) = true := by unfold bne; rw [etk2]; rfl
        have hcc : cnd = false := by rw [HCN.out, decide_eq_false hk]; rfl
        subst hcc
        clear HCN hk
        go_wp2_with fail
        go_meet
        case rel => exact ⟨rfl, rfl⟩
    case rest =>
    obtain ⟨rfl, hwc⟩ := hcut
    subst hwc
    clear RM HGB
    go_upto_if 42 with fail
    go_cut [] from 12 (fun wr => wr.heap[w.heap.size]? = some (.cells #[.int .i64 tk, .string nm, .int .i64 ts, .slice A l.length cap] 35 (0, 0)) ∧ wr.heap[w.heap.size + 1]? = some (.cells #[.int .i64 0, .string ⟨#[]⟩, .int .i64 0, .slice none 0 0] 35 (0, 0)) ∧ Below w.heap.size w wr ∧ w.heap.size + 1 + 1 ≤ wr.heap.size)
    case first =>
      cases cnd
      · have hnm3 : nm = tn := by
          rw [HNM.out, if_neg (fun h => by have := HCN.out; rw [decide_eq_true h.1, h.2] at this; exact absurd this (by decide))]
        subst hnm3
        clear HNM HFT HCN
        go_wp2_with fail
        go_meet
        case rel => exact ⟨HX1.out, HX2.out, HB.out, Nat.le_of_eq HWZ.out.symm⟩
      · have hnm3 : nm = tn ++ suf := by
          have h := HCN.out.symm
          rw [Bool.and_eq_true, decide_eq_true_eq, Bool.not_eq_true'] at h
          rw [HNM.out, if_pos h]
        have hss : tn.size + suf.size ≤ 124 := by omega
        have HNE := Lib.hid hnm3
        clear hnm3 HNM HFT HCN
        go_wp2_with fail
        go_meet
        case rel => exact ⟨by rw [HNE.out]; exact box_name HX1.out, by rw [Below.heap_setCell _ _ _ _ (show w.heap.size + 1 ≠ w.heap.size by omega)]; exact HX2.out, HB.out.setCell (Nat.le_refl _) _, by simp [World.setCell, HWZ.out]⟩
    case rest =>
    have HNSZ : Hid (nm.size ≤ 124 ∨ nm = tn) := Lib.hid (by
      by_cases h : tk = 2 ∧ remB tn ts = false
      · left; rw [HNM.out, if_pos h, ByteArray.size_append]; omega
      · right; rw [HNM.out, if_neg h])
    obtain ⟨w3, hw3⟩ : ∃ x, x = wc := ⟨_, rfl⟩
    subst hw3
    have HCUT := Lib.hid hcut
    have HNS : Hid (nm.size ≤ maxLen) := Lib.hid (by
      rcases HNSZ.out with h | h
      · unfold maxLen; omega
      · rw [h]; exact HNS0.out)
    clear hcut r0 r1 r2 r3 rf HX1 HX2 HB HCN HNM
    have HY1 : Hid (w3.heap[w.heap.size]? = some (.cells #[.int .i64 tk, .string nm, .int .i64 ts, .slice A l.length cap] 35 (0, 0))) := Lib.hid HCUT.out.1
    have HY2 : Hid (w3.heap[w.heap.size + 1]? = some (.cells #[.int .i64 0, .string ⟨#[]⟩, .int .i64 0, .slice none 0 0] 35 (0, 0))) := Lib.hid HCUT.out.2.1
    have HB3 : Hid (Below w.heap.size w w3) := Lib.hid HCUT.out.2.2.1
    have HS3 : Hid (w.heap.size + 1 + 1 ≤ w3.heap.size) := Lib.hid HCUT.out.2.2.2
    clear HCUT
    obtain ⟨r0, r1, r2, r3, rf⟩ := box_at HY1.out
    have hns : nm.size ≤ maxLen := HNS.out
    unfold maxLen at hns
    go_upto_region 4 with fail
    go_cut [7] from 12 (fun v wr => v = .bool ft ∧ w3 = wr)
    case first =>
      refine (Classical.em (tk = 2)).elim (fun hk => ?p6) (fun hk => ?n6)
      case p6 =>
        have etk2 : (tk == 2) = true := by rw [beq_iff_eq]; exact hk
        have ntk2 : (tk != 2) = false := by unfold bne; rw [etk2]; rfl
        have HFT2 : Hid (ft = decide (nm.size ≤ 24)) := Lib.hid (by rw [HFT.out, decide_eq_false (fun h => h hk)]; rfl)
        clear hk
        go_wp2_with fail
        go_meet
        case rel => exact ⟨by rw [HFT2.out]; first | rfl | (congr 1; by_cases h : nm.size ≤ 24 <;> simp [h] <;> omega), rfl⟩
      case n6 =>
        have etk2 : (tk == 2) = false := by rw [beq_eq_false_iff_ne]; exact hk
        have ntk2 : (tk != 2) = true := by unfold bne; rw [etk2]; rfl
        have hft : ft = true := by rw [HFT.out, decide_eq_true hk]; rfl
        subst hft
        clear hk
        go_wp2_with fail
        go_meet
        case rel => exact ⟨rfl, rfl⟩
    case rest =>
    obtain ⟨rfl, hwc⟩ := hcut
    subst hwc
    go_wp2_with fail
    clear r0 r1 r2 r3 rf
    go_loopw [7, 8, 9] (fun ok v i wr => ∃ (k : Nat) (its : List It) (p : Bool), k ≤ l.length ∧ i = .int .i64 k ∧ ok = .bool p ∧ Hid (p = (ft && (l.take k).all (Tm.instOk suf))) ∧ its.length = k ∧ Hid (RowT wr w3.heap.size (fun b => w3.heap.size ≤ b) v its) ∧ Hid (its.map (·.1) = (l.take k).map (Tm.inst suf)) ∧ Hid (Below w3.heap.size w3 wr)) (fun _ _ i _ => l.length - (intOf i).toNat)
    case atStart => exact ⟨0, [], _, Nat.zero_le _, rfl, rfl, by show _ = _; simp, rfl, RowT.nil _ _ _, rfl, Below.refl _ _⟩
    case round =>
      obtain ⟨k, its, p, hk, rfl, rfl, HP, hil, HROW, HITS, HBW⟩ := hrel
      have i1 : (0 : Int) ≤ (k : Int) := Int.natCast_nonneg _
      have HSW : Hid (w.heap.size + 2 ≤ w3.heap.size) := Lib.hid (by have := HS3.out; omega)
      have hy1 := (HBW.out.block w.heap.size (by have := HSW.out; omega)).trans HY1.out
      have HT := Lib.hid hy1
      have HC := Lib.hid ((HBW.out.block (w.heap.size + 1) (by have := HSW.out; omega)).trans HY2.out)
      obtain ⟨r0, r1, r2, r3, rf⟩ := box_at hy1
      clear hy1
      have HBR := Lib.hid (HB3.out.trans (HBW.out.mono HB3.out.size))
      by_cases hlt : k < l.length
      · have i2 : (k : Int) < (l.length : Int) := by omega
        have hrs : RepS wr (fun b => b < wr.heap.size) l A cap := (show RepS w (fun b => b < w.heap.size) l A cap from HRL.out).fwd0 HBR.out
        obtain ⟨kb, off, A1, c1, hA, t0, t1, t2, t3, hrt⟩ := repS_at0 hrs k hlt
        subst hA
        have hca := hrs.1
        have hcb := hrs.2.1
        unfold maxLen at hcb
        have hsz : l[k].size ≤ n := by have := Tm.sizes_get l k hlt; omega
        have hch := HKC.out l[k] (List.getElem_mem hlt)
        have HCC := Lib.hid (IH.out l[k] A1 c1 wr hsz (by omega) hch hrt)
        have hpn : (ft && (l.take (k + 1)).all (Tm.instOk suf)) = (p && l[k].instOk suf) := by
          rw [HP.out, List.take_succ_eq_append_getElem hlt, List.all_append, ← Bool.and_assoc]; simp
        have hmn : (l.take (k + 1)).map (Tm.inst suf) = (l.take k).map (Tm.inst suf) ++ [l[k].inst suf] := by
          rw [List.take_succ_eq_append_getElem hlt, List.map_append]; rfl
        obtain ⟨r, hr⟩ : ∃ r, r = l[k].inst suf := ⟨_, rfl⟩
        obtain ⟨q, hq⟩ : ∃ q, q = l[k].instOk suf := ⟨_, rfl⟩
        rw [← hr, ← hq] at HCC
        rw [← hr] at hmn
        rw [← hq] at hpn
        have HPN := Lib.hid hpn; have HMN := Lib.hid hmn
        clear hr hq hpn hmn hsz hch hrs hrt
        simp only [Tm.val] at HCC
        generalize l[k] = u at *
        go_wp2_with fail
        refine HCC.out.mono ?_; clear HCC
        rintro e w4 ⟨A5, c5, rfl, hr5, hb5⟩
        obtain ⟨Z, hZ⟩ : ∃ Z, Z = w4.alloc (.cells #[.int .i64 r.kind, .string r.name, .int .i64 r.sort, .slice A5 r.kids.length c5] 35) := ⟨_, rfl⟩
        have hbZ : Below w4.heap.size w4 Z := by rw [hZ]; exact below1 (Nat.le_refl _) _
        have hzb : Z.heap[w4.heap.size]? = some (.cells #[.int .i64 r.kind, .string r.name, .int .i64 r.sort, .slice A5 r.kids.length c5] 35 (0, 0)) := by rw [hZ]; exact heap_alloc_new _ _
        obtain ⟨v6, w6, hap, hrow6, hb6⟩ := rowT_addN HROW.out HBW.out.size (hb5.trans (hbZ.mono hb5.size)) (r, A5, c5) (RepP.mono (fun b h => ⟨h.1, by have := hbZ.size; have := h.2; omega⟩) (fun q hq => hbZ.cell hq.2) _ _ _ hr5) (by omega)
        have hzs : Z.heap.size = w4.heap.size + 1 := by rw [hZ]; simp
        rw [hzs] at hap
        rw [hZ] at hzb hap
        simp only at hap
        clear hzs
        obtain ⟨e0, e1, e2, e3, -⟩ := box_at hzb
        have HR6 := Lib.hid hrow6
        have HB6 := Lib.hid (HBW.out.trans hb6)
        have HI6 : Hid ((its ++ [(r, A5, c5)]).map (·.1) = (l.take (k + 1)).map (Tm.inst suf)) := Lib.hid (by rw [List.map_append, HITS.out, HMN.out]; rfl)
        have hl6 : (its ++ [(r, A5, c5)]).length = k + 1 := by rw [List.length_append, hil]; rfl
        generalize its ++ [(r, A5, c5)] = its6 at *
        clear hr5 hb5 hbZ hZ hzb hrow6 hb6 HROW HITS HMN t0 t1 t2 t3
        simp only [Tm.val]
        cases p
        all_goals
          go_wp2_with (at_builtin; refine wpList_run_append rfl _ _ rfl rfl rfl hap ?_)
          go_roundw
          case rel => exact ⟨k + 1, its6, _, by omega, by go_num, rfl, by show _ = _; rw [HPN.out]; rfl, hl6, HR6, HI6, HB6⟩
          case measure => simp [intOf]; omega
      · obtain rfl : k = l.length := by omega
        obtain ⟨A7, c7, rfl, hS⟩ := HROW.out.toS (P := fun k => w3.heap.size ≤ k ∧ k < wr.heap.size) (fun k h h' => ⟨h, h'⟩) (fun k h h' => ⟨h, h'⟩)
        obtain ⟨c0, c1, c2, c3, cf⟩ := box_at HC.out
        have hmap : its.map (·.1) = l.map (Tm.inst suf) := by have := HITS.out; rw [List.take_length] at this; exact this
        rw [hmap] at hS
        have hpf : p = (ft && l.all (Tm.instOk suf)) := by have := HP.out; rw [List.take_length] at this; exact this
        have HS := Lib.hid hS; have HPF := Lib.hid hpf
        clear hS hmap hpf HROW HITS HP
        go_wp2_with fail
        refine bodyPost_ret (v := .tuple #[.agg #[.int .i64 tk, .string nm, .int .i64 ts, .slice A7 its.length c7], .bool p]) ?_ rfl ?_
        · simp [results, Tryd.results57, go_sem, c0, c1, c2, c3]
          exact hil.symm
        refine ⟨A7, c7, ?_, ?_, ?_⟩
        · rw [← HPF.out]; simp only [Tm.val, Tm.kind, Tm.name, Tm.sort, Tm.kids, List.length_map, hil]
        · rw [size_put]
          refine RepP.mono (P := fun k => w3.heap.size ≤ k ∧ k < wr.heap.size) (w := wr) (fun k h => ?_) (fun q hq => ?_) _ _ _ ?_
          · have h1 := HSW.out
            exact ⟨by omega, by simpa [World.setCell] using h.2⟩
          · have h1 := HSW.out
            rw [box_put _ _ _ _ (by omega)]
            exact World.cell?_setCell_other _ _ _ _ (fun e => by rw [← e] at hq; have := hq.1; simp at this; omega)
          · rw [RepP_mk]
            exact ⟨HNS.out, HS.out⟩
        · exact below_put _ _ _ _ (HBR.out.setCell (p := ⟨w.heap.size, 3, none⟩) (Nat.le_refl _) _) (Nat.le_succ _)
end Go.Proofs.YtpjmdilpldaapaaDoor
