/- CastSessions, walked. -/
import Derived.Test.YtpjmdilpldaapaaDoorCrsess
import Derived.Test.YtpjmdilpldaapaaDoorCsess
import Derived.Test.YtpjmdilpldaapaaDoorCslists
import Derived.Test.YtpjmdilpldaapaaDoorClist
namespace Go.Proofs.YtpjmdilpldaapaaDoor
open Go.RowKit Go.Sort

theorem sessLs_small (ags bad : List ByteArray) (roles n : Int) : (sessLs ags bad roles n).length ≤ 1000000 ∧ ∀ l ∈ sessLs ags bad roles n, l.length ≤ 1000000 ∧ ∀ s ∈ l, s.2.length ≤ 1000000 := by
  unfold sessLs
  split
  · exact ⟨by simp, by simp⟩
  split
  · exact ⟨by simp, by simp⟩
  rename_i h1 h2
  rw [sessL_lst]
  split
  · exact ⟨by simp, by simp⟩
  rename_i h3
  refine ⟨?_, fun l hl => ?_⟩
  · rw [lstN_length _ _ _ _ (Nat.zero_le _), Nat.sub_zero]; omega
  · obtain ⟨q, hq, rfl⟩ := List.mem_map.1 hl
    have h4 := (mem_idxR _ _ _ _ hq).1
    refine ⟨by rw [List.length_map]; omega, fun s hs => ?_⟩
    have := mem_allS (lst_mem hl s hs)
    omega

attribute [local irreducible] wpMix4
set_option linter.unusedSimpArgs false in
set_option linter.unusedVariables false in
set_option maxHeartbeats 4000000 in
set_option maxRecDepth 100000 in
theorem castSessions_law (ags bad : List ByteArray) (Aa Ab : Option Addr) (ca cb : Nat) (roles n : Int) (w : World) (hc : CastW w ags bad Aa ca Ab cb) (hroom : (ags.length + bad.length) * 16 ≤ 140737488355328) :
    Calls Tryd.prog 3 #[castV ags bad Aa ca Ab cb, .int .i64 roles, .int .i64 n] w fun e w' => e = .returned (.bool true) ∧ Below w.heap.size w w' := by
  have mixed : Tryd.prog.follows .mixedOrders = true := by kernel_rfl
  obtain ⟨V, hV⟩ : ∃ V, V = w.alloc (.cells #[.slice Aa ags.length ca, .slice Ab bad.length cb] 24) := ⟨_, rfl⟩
  have hbV : Below w.heap.size w V := by rw [hV]; exact below1 (Nat.le_refl _) _
  have CB0 : Hid (CBox V w.heap.size ags bad Aa ca Ab cb) := Lib.hid ⟨by rw [hV]; exact heap_alloc_new _ _, hc.below hbV⟩
  have HBV := Lib.hid hbV; have HV := Lib.hid hV
  clear hbV hV hc
  unfold castV
  go_enter Tryd.func3, Tryd.ntmps3
  go_wp2_with fail
  rw [← HV.out]
  refine (cawake_any V).mono ?_
  rintro e w1 ⟨rfl, hb1⟩
  have CB1 := Lib.hid (CB0.out.go hb1)
  have HB1 := Lib.hid (below_then HBV.out hb1 HBV.out.size)
  obtain ⟨a0, a1, -⟩ := boxC_cells CB1.out.box
  have HFW := Lib.hid (fewC_any ags bad Aa Ab ca cb w1 CB1.out.cast hroom)
  (try simp only [castV] at HFW)
  clear CB0 HBV HV hb1
  go_wp2_with fail
  refine HFW.out.mono ?_; clear HFW
  rintro e w2 ⟨rfl, hb2⟩
  have CB := Lib.hid (CB1.out.go hb2)
  have HB := Lib.hid (below_then HB1.out hb2 HB1.out.size)
  clear CB1 HB1 hb2 a0 a1
  cases hfew : fewC ags bad with
  | false =>
    go_wp2_with fail
    refine (cawake_any w2).mono ?_
    rintro e w3 ⟨rfl, hb3⟩
    go_wp2_with fail
    go_ret
    exact ⟨rfl, below_then HB.out hb3 HB.out.size⟩
  | true =>
    obtain ⟨a0, a1, -⟩ := boxC_cells CB.out.box
    obtain ⟨E, hE⟩ : ∃ E, E = sessEr ags bad roles n := ⟨_, rfl⟩
    obtain ⟨L, hL⟩ : ∃ L, L = sessLs ags bad roles n := ⟨_, rfl⟩
    have HSM : Hid (L.length ≤ 1000000 ∧ ∀ l ∈ L, l.length ≤ 1000000 ∧ ∀ s ∈ l, s.2.length ≤ 1000000) := Lib.hid (by rw [hL]; exact sessLs_small _ _ _ _)
    have HP : Hid (∀ X, CastW X ags bad Aa ca Ab cb → Calls Tryd.prog 13 #[.agg #[.slice Aa ags.length ca, .slice Ab bad.length cb], .int .i64 roles, .int .i64 n] X (SessOf X E L)) := Lib.hid fun X hX => by
      rw [hE, hL]; exact csess_any ags bad Aa Ab ca cb roles n X hX
    have HQ : Hid (∀ X, CastW X ags bad Aa ca Ab cb → Calls Tryd.prog 14 #[.agg #[.slice Aa ags.length ca, .slice Ab bad.length cb], .int .i64 roles, .int .i64 n] X (SessOf X E L)) := Lib.hid fun X hX => by
      rw [hE, hL]; exact rsess_any ags bad Aa Ab ca cb roles n X hX
    clear hE hL
    have HCC := Lib.hid (HP.out _ CB.out.cast)
    go_wp2_with fail
    refine HCC.out.mono ?_; clear HCC HP
    rintro e w3 ⟨A3, c3, rfl, hS3, hb⟩
    have S3 := Lib.hid hS3
    clear hS3
    have CBN := Lib.hid (CB.out.go hb)
    have HBN := Lib.hid (below_then HB.out hb HB.out.size)
    clear CB HB a0 a1
    have CB := CBN
    have HB := HBN
    clear CBN HBN hb
    obtain ⟨a0, a1, -⟩ := boxC_cells CB.out.box
    have HCC := Lib.hid (HQ.out _ CB.out.cast)
    go_wp2_with fail
    refine HCC.out.mono ?_; clear HCC HQ
    rintro e w4 ⟨A4, c4, rfl, hS4, hb⟩
    have S4 := Lib.hid hS4
    clear hS4
    have CBN := Lib.hid (CB.out.go hb)
    have HBN := Lib.hid (below_then HB.out hb HB.out.size)
    have S3N := Lib.hid (S3.out.fwd hb)
    clear CB HB S3 a0 a1
    have CB := CBN
    have HB := HBN
    have S3 := S3N
    clear CBN HBN S3N hb
    obtain ⟨a0, a1, -⟩ := boxC_cells CB.out.box
    have hEE : (E == E) = true := beq_self_eq_true E
    have HCC := Lib.hid (same_lists L A3 A4 c3 c4 w4 S3.out S4.out HSM.out.1 HSM.out.2)
    go_wp2_with fail
    refine HCC.out.mono ?_; clear HCC
    rintro e w5 ⟨rfl, hb⟩
    have HBN := Lib.hid (below_then HB.out hb HB.out.size)
    clear hb
    go_wp2_with fail
    go_ret
    exact ⟨rfl, HBN.out⟩
end Go.Proofs.YtpjmdilpldaapaaDoor
