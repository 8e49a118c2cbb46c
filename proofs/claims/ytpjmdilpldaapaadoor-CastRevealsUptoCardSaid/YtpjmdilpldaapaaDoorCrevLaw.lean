/- CastReveals, walked. -/
import Derived.Test.YtpjmdilpldaapaaDoorClist
import Derived.Test.YtpjmdilpldaapaaDoorCrev
import Derived.Test.YtpjmdilpldaapaaDoorCrrev
import Derived.Test.YtpjmdilpldaapaaDoorCsame
namespace Go.Proofs.YtpjmdilpldaapaaDoor
open Go.RowKit Go.Sort

theorem skT_size (x : ByteArray) : (skT x).size ≤ 100 := by simp [skT, agT, Tm.size, Tm.sizes]
theorem revA_len (ags bad : List ByteArray) (x : ByteArray) : (revA ags bad x).length ≤ ags.length := by unfold revA; split <;> simp
theorem revB_len (ags bad : List ByteArray) (x : ByteArray) : (revB ags bad x).length ≤ ags.length := by
  unfold revB; split
  · exact revC_length _ _ _
  · simp
theorem few_len {ags bad : List ByteArray} (h : fewC ags bad = true) : ags.length + bad.length ≤ 20 := by
  unfold fewC at h
  rw [Bool.and_eq_true, decide_eq_true_eq, List.length_append] at h
  exact h.2
theorem rev_parts {ags bad : List ByteArray} {x : ByteArray} (h : revEr ags bad x = 0) : revA ags bad x = ags ∧ revB ags bad x = revC ags bad x ∧ (castE ags bad = 0 ∧ x ∈ ags) ∧ x ∉ bad := by
  refine ⟨by rw [revA, if_pos h], by rw [revB, if_pos h], ?_⟩
  unfold revEr at h
  by_cases h0 : castE ags bad = 0
  · rw [if_pos h0] at h
    by_cases h1 : hasS ags x = true
    · rw [if_pos h1] at h
      by_cases h2 : hasS bad x = true
      · rw [if_pos h2] at h; omega
      · exact ⟨⟨h0, (hasS_iff _ _).1 h1⟩, fun hm => h2 ((hasS_iff _ _).2 hm)⟩
    · rw [if_neg h1] at h; omega
  · rw [if_neg h0] at h; exact absurd h h0
theorem crevS {ags bad : List ByteArray} {Aa Ab : Option Addr} {ca cb : Nat} {x : ByteArray} {w : World} {R : Int} {ra rb : List ByteArray} (hR : R = revEr ags bad x) (ha : ra = revA ags bad x) (hb : rb = revB ags bad x) (hc : CastW w ags bad Aa ca Ab cb) :
    Calls Tryd.prog 34 #[castV ags bad Aa ca Ab cb, .string x] w (RevOf w R ra rb) := by
  subst hR ha hb; exact crev_any ags bad Aa Ab ca cb x w hc
theorem rrevS {ags bad : List ByteArray} {Aa Ab : Option Addr} {ca cb : Nat} {x : ByteArray} {w : World} {R : Int} {ra rb : List ByteArray} (hR : R = revEr ags bad x) (ha : ra = revA ags bad x) (hb : rb = revB ags bad x) (hc : CastW w ags bad Aa ca Ab cb) :
    Calls Tryd.prog 35 #[castV ags bad Aa ca Ab cb, .string x] w (RevOf w R ra rb) := by
  subst hR ha hb; exact rrev_any ags bad Aa Ab ca cb x w hc
theorem repS_at {w : World} {l : List Tm} {A : Option Addr} {cap : Nat} (h : RepS w (fun b => b < w.heap.size) l A cap) (k : Nat) (hk : k < l.length) : ∃ b off A1 c1, A = some ⟨b, off, none⟩ ∧
    w.cell? ⟨b, off + k * 4, none⟩ = some (.int .i64 l[k].kind) ∧ w.cell? ⟨b, off + k * 4 + 1, none⟩ = some (.string l[k].name) ∧ w.cell? ⟨b, off + k * 4 + 2, none⟩ = some (.int .i64 l[k].sort) ∧ w.cell? ⟨b, off + k * 4 + 3, none⟩ = some (.slice A1 l[k].kids.length c1) ∧ RepT w w.heap.size l[k] A1 c1 := by
  rcases h.2.2 with rfl | ⟨b, off, rfl, hb, hl⟩
  · simp at hk
  · obtain ⟨A1, c1, t0, t1, t2, t3, hr⟩ := RepLP.get hl k hk
    exact ⟨b, off, A1, c1, rfl, t0, t1, t2, t3, hr⟩

attribute [local irreducible] wpMix4
set_option linter.unusedSimpArgs false in
set_option linter.unusedVariables false in
set_option maxHeartbeats 4000000 in
set_option maxRecDepth 100000 in
theorem castReveals_law (ags bad : List ByteArray) (Aa Ab : Option Addr) (ca cb : Nat) (x : ByteArray) (w : World) (hc : CastW w ags bad Aa ca Ab cb) (hroom : (ags.length + bad.length) * 16 ≤ 140737488355328) (hx : x.size ≤ maxLen) :
    Calls Tryd.prog 10 #[castV ags bad Aa ca Ab cb, .string x] w fun e w' => e = .returned (.bool true) ∧ Below w.heap.size w w' := by
  have mixed : Tryd.prog.follows .mixedOrders = true := by kernel_rfl
  obtain ⟨V, hV⟩ : ∃ V, V = w.alloc (.cells #[.slice Aa ags.length ca, .slice Ab bad.length cb] 24) := ⟨_, rfl⟩
  have hbV : Below w.heap.size w V := by rw [hV]; exact below1 (Nat.le_refl _) _
  have CB0 : Hid (CBox V w.heap.size ags bad Aa ca Ab cb) := Lib.hid ⟨by rw [hV]; exact heap_alloc_new _ _, hc.below hbV⟩
  have HBV := Lib.hid hbV; have HV := Lib.hid hV
  clear hbV hV hc
  unfold castV
  go_enter Tryd.func10, Tryd.ntmps10
  go_wp2_with fail
  rw [← HV.out]
  refine (cawake_any V).mono ?_
  rintro e w1 ⟨rfl, hb1⟩
  have CB1 := Lib.hid (CB0.out.go hb1)
  have HB1 := Lib.hid (below_then HBV.out hb1 HBV.out.size)
  obtain ⟨a0, a1, -⟩ := boxC_cells CB1.out.box
  have HFW := Lib.hid (fewC_any ags bad Aa Ab ca cb w1 CB1.out.cast hroom)
  (try simp only [castV] at HFW)
  clear CB0 HBV HV hb1
  go_wp2_with fail
  refine HFW.out.mono ?_; clear HFW
  rintro e w2 ⟨rfl, hb2⟩
  have CB := Lib.hid (CB1.out.go hb2)
  have HB := Lib.hid (below_then HB1.out hb2 HB1.out.size)
  clear CB1 HB1 hb2 a0 a1
  cases hfew : fewC ags bad with
  | false =>
    go_wp2_with fail
    refine (cawake_any w2).mono ?_
    rintro e w3 ⟨rfl, hb3⟩
    go_wp2_with fail
    go_ret
    exact ⟨rfl, below_then HB.out hb3 HB.out.size⟩
  | true =>
    obtain ⟨a0, a1, -⟩ := boxC_cells CB.out.box
    obtain ⟨R, hR⟩ : ∃ R, R = revEr ags bad x := ⟨_, rfl⟩
    obtain ⟨ra, hra⟩ : ∃ ra, ra = revA ags bad x := ⟨_, rfl⟩
    obtain ⟨rb, hrb⟩ : ∃ rb, rb = revB ags bad x := ⟨_, rfl⟩
    have hl20 := few_len hfew
    have HLA : Hid (ra.length ≤ 1000000) := Lib.hid (by rw [hra]; have := revA_len ags bad x; omega)
    have HLB : Hid (rb.length ≤ 1000000) := Lib.hid (by rw [hrb]; have := revB_len ags bad x; omega)
    have HX := Lib.hid hx
    have HR := Lib.hid hR; have HRA := Lib.hid hra; have HRB := Lib.hid hrb
    clear hR hra hrb hx hl20
    have HCC := Lib.hid (crevS HR.out HRA.out HRB.out CB.out.cast)
    (try simp only [castV, Tm.val] at HCC)
    go_wp2_with fail
    refine HCC.out.mono ?_; clear HCC
    rintro e w3 ⟨A3, c3, B3, d3, rfl, hcr3, hb3⟩
    unfold castV
    have CBN := Lib.hid (CB.out.go hb3)
    have HBN := Lib.hid (below_then HB.out hb3 HB.out.size)
    have CR3 := Lib.hid (hcr3)
    clear CB HB a0 a1
    have CB := CBN
    have HB := HBN
    clear CBN HBN
    clear hcr3
    clear hb3
    obtain ⟨a0, a1, -⟩ := boxC_cells CB.out.box
    obtain ⟨D1, hD1⟩ : ∃ D, D = w3.alloc (.cells #[.slice A3 ra.length c3, .slice B3 rb.length d3] 24) := ⟨_, rfl⟩
    have hbD : Below w3.heap.size w3 D1 := by rw [hD1]; exact below1 (Nat.le_refl _) _
    have CD : Hid (CBox D1 w3.heap.size ra rb A3 c3 B3 d3) := Lib.hid ⟨by rw [hD1]; exact heap_alloc_new _ _, CR3.out.below hbD⟩
    have HD1 := Lib.hid hD1
    have CBN := Lib.hid (CB.out.go hbD)
    have HBN := Lib.hid (below_then HB.out hbD HB.out.size)
    clear CB HB
    have CB := CBN
    have HB := HBN
    clear CBN HBN
    clear hbD
    have hlit := CB.out.box
    rw [hD1] at hlit
    obtain ⟨a0L, a1L, -⟩ := boxC_cells hlit
    clear hlit
    have hlit := CD.out.box
    rw [hD1] at hlit
    obtain ⟨p0L, p1L, -⟩ := boxC_cells hlit
    clear hlit
    clear hD1
    clear CR3
    have HCC := Lib.hid (rrevS HR.out HRA.out HRB.out CB.out.cast)
    (try simp only [castV, Tm.val] at HCC)
    go_wp2_with fail
    rw [← HD1.out]
    refine HCC.out.mono ?_; clear HCC
    rintro e w4 ⟨A4, c4, B4, d4, rfl, hcr4, hb4⟩
    unfold castV
    have CBN := Lib.hid (CB.out.go hb4)
    have CDN := Lib.hid (CD.out.go hb4)
    have HBN := Lib.hid (below_then HB.out hb4 HB.out.size)
    have CR4 := Lib.hid (hcr4)
    clear CB CD HB a0 a1
    clear a0L a1L p0L p1L
    have CB := CBN
    have CD := CDN
    have HB := HBN
    clear CBN CDN HBN
    clear hcr4
    clear hb4
    obtain ⟨a0, a1, -⟩ := boxC_cells CB.out.box
    obtain ⟨p0, p1, -⟩ := boxC_cells CD.out.box
    obtain ⟨D2, hD2⟩ : ∃ D, D = w4.alloc (.cells #[.slice A4 ra.length c4, .slice B4 rb.length d4] 24) := ⟨_, rfl⟩
    have hbD : Below w4.heap.size w4 D2 := by rw [hD2]; exact below1 (Nat.le_refl _) _
    have CE : Hid (CBox D2 w4.heap.size ra rb A4 c4 B4 d4) := Lib.hid ⟨by rw [hD2]; exact heap_alloc_new _ _, CR4.out.below hbD⟩
    have HD2 := Lib.hid hD2
    have CBN := Lib.hid (CB.out.go hbD)
    have CDN := Lib.hid (CD.out.go hbD)
    have HBN := Lib.hid (below_then HB.out hbD HB.out.size)
    clear CB CD HB
    have CB := CBN
    have CD := CDN
    have HB := HBN
    clear CBN CDN HBN
    clear hbD
    have hlit := CB.out.box
    rw [hD2] at hlit
    obtain ⟨a0L, a1L, -⟩ := boxC_cells hlit
    clear hlit
    have hlit := CD.out.box
    rw [hD2] at hlit
    obtain ⟨p0L, p1L, -⟩ := boxC_cells hlit
    clear hlit
    have hlit := CE.out.box
    rw [hD2] at hlit
    obtain ⟨q0L, q1L, -⟩ := boxC_cells hlit
    clear hlit
    clear hD2
    clear CR4
    have hnR : (R != R) = false := bne_self_eq_false R
    have HCC := Lib.hid (same_cast ra rb A3 B3 c3 d3 A4 B4 c4 d4 D2 CD.out.cast CE.out.cast HLA.out HLB.out)
    (try simp only [castV, Tm.val] at HCC)
    go_wp2_with fail
    rw [← HD2.out]
    refine HCC.out.mono ?_; clear HCC
    rintro e w5 ⟨rfl, hb5⟩
    have CBN := Lib.hid (CB.out.go hb5)
    have CDN := Lib.hid (CD.out.go hb5)
    have CEN := Lib.hid (CE.out.go hb5)
    have HBN := Lib.hid (below_then HB.out hb5 HB.out.size)
    clear CB CD CE HB a0 a1 p0 p1
    clear a0L a1L p0L p1L q0L q1L
    have CB := CBN
    have CD := CDN
    have CE := CEN
    have HB := HBN
    clear CBN CDN CEN HBN
    clear hb5
    obtain ⟨a0, a1, -⟩ := boxC_cells CB.out.box
    obtain ⟨p0, p1, -⟩ := boxC_cells CD.out.box
    obtain ⟨q0, q1, -⟩ := boxC_cells CE.out.box
    by_cases h0 : R = 0
    · have hP := rev_parts (HR.out.symm.trans h0)
      subst h0
      obtain ⟨h1, h2, h3, h4⟩ := hP
      obtain rfl : ra = ags := HRA.out.trans h1
      have hrb := HRB.out.trans h2
      subst hrb
      have HE0 : Hid (0 = castE ra bad) := Lib.hid h3.1.symm
      have HE1 : Hid (0 = castE ra (revC ra bad x)) := Lib.hid (rev_valid h3.1 x).symm
      obtain ⟨L1, hL1⟩ : ∃ L, L = initE ra bad := ⟨_, rfl⟩
      obtain ⟨L2, hL2⟩ : ∃ L, L = initE ra (revC ra bad x) := ⟨_, rfl⟩
      have HS1 : Hid (SmallL L1) := Lib.hid (by rw [hL1]; exact initE_small _ _)
      have HS2 : Hid (SmallL L2) := Lib.hid (by rw [hL2]; exact initE_small _ _)
      have hi1 : L1 = initC ra bad := by rw [hL1, initE, if_pos h3.1]
      have hi2 : L2 = initC ra (revC ra bad x) := by rw [hL2, initE, if_pos (rev_valid h3.1 x)]
      have HMO : Hid (∀ t ∈ L1, t ∈ L2) := Lib.hid (by rw [hi1, hi2]; exact rev_mono h3.1 x)
      have HHA : Hid (skT x ∈ L2) := Lib.hid (by rw [hi2]; exact rev_has x h3.2)
      have hmr : L1.length < L2.length := by rw [hi1, hi2]; exact rev_more h3.1 x h3.2 h4
      have hle : decide ((L2.length : Int) ≤ (L1.length : Int)) = false := decide_eq_false (by omega)
      have hnle : ¬ (L2.length : Int) ≤ (L1.length : Int) := by omega
      have hleN : decide (L2.length ≤ L1.length) = false := decide_eq_false (by omega)
      have hnleN : ¬ L2.length ≤ L1.length := by omega
      have hn1 : L1.length ≤ 100 := HS1.out.2
      have HHO : Hid (honestC ra (revC ra bad x) x = false) := Lib.hid (rev_honest ra bad x h3.2)
      have HL1 := Lib.hid hL1; have HL2 := Lib.hid hL2
      generalize revC ra bad x = rb at *
      clear h1 h2 h3 h4 hL1 hL2 hi1 hi2 HR HRA HRB hnR HLA HLB
      have HCC := Lib.hid (cinitS HE0.out HL1.out CB.out.cast)
      (try simp only [castV, Tm.val] at HCC)
      go_wp2_with fail
      refine HCC.out.mono ?_; clear HCC
      rintro e w6 ⟨A6, c6, rfl, hS6, hb6⟩
      have CBN := Lib.hid (CB.out.go hb6)
      have CDN := Lib.hid (CD.out.go hb6)
      have CEN := Lib.hid (CE.out.go hb6)
      have HBN := Lib.hid (below_then HB.out hb6 HB.out.size)
      have S6 := Lib.hid (hS6)
      clear CB CD CE HB a0 a1 p0 p1 q0 q1
      have CB := CBN
      have CD := CDN
      have CE := CEN
      have HB := HBN
      clear CBN CDN CEN HBN
      clear hS6
      clear hb6
      obtain ⟨a0, a1, -⟩ := boxC_cells CB.out.box
      obtain ⟨p0, p1, -⟩ := boxC_cells CD.out.box
      obtain ⟨q0, q1, -⟩ := boxC_cells CE.out.box
      have HCC := Lib.hid (cinitS HE1.out HL2.out CD.out.cast)
      (try simp only [castV, Tm.val] at HCC)
      go_wp2_with fail
      refine HCC.out.mono ?_; clear HCC
      rintro e w7 ⟨A7, c7, rfl, hS7, hb7⟩
      have CBN := Lib.hid (CB.out.go hb7)
      have CDN := Lib.hid (CD.out.go hb7)
      have CEN := Lib.hid (CE.out.go hb7)
      have HBN := Lib.hid (below_then HB.out hb7 HB.out.size)
      have S6N := Lib.hid (S6.out.fwd hb7)
      have S7 := Lib.hid (hS7)
      clear CB CD CE HB S6 a0 a1 p0 p1 q0 q1
      have CB := CBN
      have CD := CDN
      have CE := CEN
      have HB := HBN
      have S6 := S6N
      clear CBN CDN CEN HBN S6N
      clear hS7
      clear hb7
      obtain ⟨a0, a1, -⟩ := boxC_cells CB.out.box
      obtain ⟨p0, p1, -⟩ := boxC_cells CD.out.box
      obtain ⟨q0, q1, -⟩ := boxC_cells CE.out.box
      have HCC := Lib.hid (by have h := (chonest_any ra rb A3 B3 c3 d3 x w7 CD.out.cast).mono fun _ _ h => And.intro h.1 h.2.below; rw [HHO.out] at h; exact h)
      (try simp only [castV, Tm.val] at HCC)
      go_wp2_with fail
      refine HCC.out.mono ?_; clear HCC
      rintro e w8 ⟨rfl, hb8⟩
      have CBN := Lib.hid (CB.out.go hb8)
      have CDN := Lib.hid (CD.out.go hb8)
      have CEN := Lib.hid (CE.out.go hb8)
      have HBN := Lib.hid (below_then HB.out hb8 HB.out.size)
      have S6N := Lib.hid (S6.out.fwd hb8)
      have S7N := Lib.hid (S7.out.fwd hb8)
      clear CB CD CE HB S6 S7 a0 a1 p0 p1 q0 q1
      have CB := CBN
      have CD := CDN
      have CE := CEN
      have HB := HBN
      have S6 := S6N
      have S7 := S7N
      clear CBN CDN CEN HBN S6N S7N
      clear hb8
      obtain ⟨a0, a1, -⟩ := boxC_cells CB.out.box
      obtain ⟨p0, p1, -⟩ := boxC_cells CD.out.box
      obtain ⟨q0, q1, -⟩ := boxC_cells CE.out.box
      have HCC := Lib.hid (rprivate_any x HX.out w8)
      (try simp only [castV, Tm.val] at HCC)
      go_wp2_with fail
      refine HCC.out.mono ?_; clear HCC
      rintro e w9 ⟨A9, c9, rfl, hr9, hb9⟩
      have CBN := Lib.hid (CB.out.go hb9)
      have CDN := Lib.hid (CD.out.go hb9)
      have CEN := Lib.hid (CE.out.go hb9)
      have HBN := Lib.hid (below_then HB.out hb9 HB.out.size)
      have S6N := Lib.hid (S6.out.fwd hb9)
      have S7N := Lib.hid (S7.out.fwd hb9)
      have HT9 := Lib.hid (hr9)
      clear CB CD CE HB S6 S7 a0 a1 p0 p1 q0 q1
      have CB := CBN
      have CD := CDN
      have CE := CEN
      have HB := HBN
      have S6 := S6N
      have S7 := S7N
      clear CBN CDN CEN HBN S6N S7N
      clear hr9
      clear hb9
      obtain ⟨a0, a1, -⟩ := boxC_cells CB.out.box
      obtain ⟨p0, p1, -⟩ := boxC_cells CD.out.box
      obtain ⟨q0, q1, -⟩ := boxC_cells CE.out.box
      have HCC := Lib.hid (by have h := has_small (x := skT x) HS2.out (skT_size x) S7.out (RepP.mono (fun _ h => h.2) (fun _ _ => rfl) _ _ _ HT9.out); rw [decide_eq_true HHA.out] at h; exact h)
      (try simp only [skT, Tm.val, Tm.kind, Tm.name, Tm.sort, Tm.kids] at HCC ⊢)
      go_wp2_with fail
      refine HCC.out.mono ?_; clear HCC
      rintro e w10 ⟨rfl, hb10⟩
      have CBN := Lib.hid (CB.out.go hb10)
      have CDN := Lib.hid (CD.out.go hb10)
      have CEN := Lib.hid (CE.out.go hb10)
      have HBN := Lib.hid (below_then HB.out hb10 HB.out.size)
      have S6N := Lib.hid (S6.out.fwd hb10)
      have S7N := Lib.hid (S7.out.fwd hb10)
      clear CB CD CE HB S6 S7 a0 a1 p0 p1 q0 q1
      have CB := CBN
      have CD := CDN
      have CE := CEN
      have HB := HBN
      have S6 := S6N
      have S7 := S7N
      clear CBN CDN CEN HBN S6N S7N
      clear hb10
      obtain ⟨a0, a1, -⟩ := boxC_cells CB.out.box
      obtain ⟨p0, p1, -⟩ := boxC_cells CD.out.box
      obtain ⟨q0, q1, -⟩ := boxC_cells CE.out.box
      clear HT9 HHA HHO HE0 HE1 HL1 HL2 CB CD CE a0 a1 p0 p1 q0 q1
      clear hle hnle
      have HC6 := S6.out.1
      have HC6' := S6.out.2.1
      unfold maxLen at HC6'
      go_wp2_with fail
      go_loopw [14, 93] (fun _ i wr => ∃ k : Nat, k ≤ L1.length ∧ i = .int .i64 k ∧ Hid (Below w10.heap.size w10 wr)) (fun _ i _ => L1.length - (intOf i).toNat)
      case atStart => exact ⟨0, Nat.zero_le _, rfl, Below.refl _ _⟩
      case round =>
        obtain ⟨k, hk, rfl, HBW⟩ := hrel
        have i1 : (0 : Int) ≤ (k : Int) := Int.natCast_nonneg _
        by_cases hlt : k < L1.length
        · have i2 : (k : Int) < (L1.length : Int) := by omega
          obtain ⟨b, off, A11, c11, rfl, t0, t1, t2, t3, hrt⟩ := repS_at (S6.out.fwd HBW.out) k hlt
          have hin := HMO.out L1[k] (List.getElem_mem hlt)
          have hsm := HS1.out.1 L1[k] (List.getElem_mem hlt)
          obtain ⟨Z, hZ⟩ : ∃ Z, Z = wr.alloc (boxT L1[k] A11 c11) := ⟨_, rfl⟩
          have hbZ : Below wr.heap.size wr Z := by rw [hZ]; exact below1 (Nat.le_refl _) _
          have hzb : Z.heap[wr.heap.size]? = some (boxT L1[k] A11 c11) := by rw [hZ]; exact heap_alloc_new _ _
          have HCC := Lib.hid (has_small (x := L1[k]) HS2.out (by omega) ((S7.out.fwd HBW.out).fwd hbZ) (hrt.go hbZ hbZ.size))
          rw [decide_eq_true hin] at HCC
          rw [hZ] at hzb
          obtain ⟨y0, y1, y2, y3, -⟩ := box_at hzb
          have HZB := Lib.hid (HBW.out.trans (hbZ.mono HBW.out.size))
          have HBS := Lib.hid (Nat.le_trans HBW.out.size hbZ.size)
          simp only [Tm.val] at HCC
          generalize L1[k] = tt at *
          unfold boxT at hZ y0 y1 y2 y3
          have HZ := Lib.hid hZ
          clear hzb hbZ hrt hin hsm hZ
          go_wp2_with fail
          rw [← HZ.out]
          refine HCC.out.mono ?_; clear HCC
          rintro e w12 ⟨rfl, hb12⟩
          have HB12 := Lib.hid (HZB.out.trans (hb12.mono HBS.out))
          clear hb12
          go_wp2_with fail
          go_roundw
          case rel => exact ⟨k + 1, by omega, by go_num, HB12.out⟩
          case measure => simp [intOf]; omega
        · obtain rfl : k = L1.length := by omega
          go_wp2_with fail
          go_ret
          exact ⟨rfl, HB.out.trans (HBW.out.mono HB.out.size)⟩
    · have hR0 : (R != 0) = true := by rw [bne_iff_ne]; exact h0
      have heR : (R == R) = true := beq_self_eq_true R
      have HCC := Lib.hid (same_cast ra rb A3 B3 c3 d3 A4 B4 c4 d4 w5 CD.out.cast CE.out.cast HLA.out HLB.out)
      (try simp only [castV, Tm.val] at HCC)
      go_wp2_with fail
      refine HCC.out.mono ?_; clear HCC
      rintro e w6 ⟨rfl, hb6⟩
      have CBN := Lib.hid (CB.out.go hb6)
      have CDN := Lib.hid (CD.out.go hb6)
      have CEN := Lib.hid (CE.out.go hb6)
      have HBN := Lib.hid (below_then HB.out hb6 HB.out.size)
      clear CB CD CE HB a0 a1 p0 p1 q0 q1
      have CB := CBN
      have CD := CDN
      have CE := CEN
      have HB := HBN
      clear CBN CDN CEN HBN
      clear hb6
      obtain ⟨a0, a1, -⟩ := boxC_cells CB.out.box
      obtain ⟨p0, p1, -⟩ := boxC_cells CD.out.box
      obtain ⟨q0, q1, -⟩ := boxC_cells CE.out.box
      go_wp2_with fail
      go_ret
      exact ⟨rfl, HB.out⟩
end Go.Proofs.YtpjmdilpldaapaaDoor
