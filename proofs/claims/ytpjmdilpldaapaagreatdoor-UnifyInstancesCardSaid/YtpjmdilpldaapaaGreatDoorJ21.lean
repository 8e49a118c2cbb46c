/- Urdig (joined by shake.py). -/
import Derived.Test.YtpjmdilpldaapaaGreatDoorJ12
import Derived.Lib.ItoaNum
import Derived.Laws.BytesArg
set_option maxRecDepth 100000
namespace Go.Proofs.YtpjmdilpldaapaaGreatDoor
open Go.RowKit Go.Sort
theorem convB (W : World) (b : Nat) (c : Int) (h : W.cell? ⟨b, 0, none⟩ = some (.int .u8 c)) :
  (Go.convert 113 9 (.slice (some ⟨b, 0, none⟩) 1 1)).run Tryz.prog W = .ok (.string (strOfNums [c])) W := by
 have hconv := run_convert_bytes_arg (P := Tryz.prog) W 113 5 Tryz.underlying113 Tryz.underlying5 b 0 1 1 [c] rfl (fun i hi => by
  obtain rfl : i = 0 := by omega
  exact h) 9 Tryz.underlying9
 exact hconv
theorem digS (d : Nat) : strOfNums [48 + (d : Int)] = ⟨#[UInt8.ofNat (48 + d)]⟩ := by
 have h : (48 + (d : Int)).toNat = 48 + d := by omega
 show (⟨#[UInt8.ofNat (48 + (d : Int)).toNat]⟩ : ByteArray) = _;rw [h]
theorem dec_snoc {n : Nat} (h : ¬ n < 10) : (⟨(Lib.decDigits n).toArray⟩ : ByteArray) = (⟨(Lib.decDigits (n / 10)).toArray⟩ : ByteArray) ++ (⟨#[UInt8.ofNat (48 + n % 10)]⟩ : ByteArray) := by
 rw [Lib.decDigits, dif_neg h];apply ByteArray.ext;simp [ByteArray.data_append]
theorem qjx {n : Nat} (h : n < 1000000) : (⟨(Lib.decDigits n).toArray⟩ : ByteArray).size ≤ 6 := by
 show (Lib.decDigits n).toArray.size ≤ 6;have go : ∀ (k m : Nat), m < 10 ^ (k + 1) → (Lib.decDigits m).length ≤ k + 1 := by
  intro k
  induction k with
  | zero => intro m hm; rw [Lib.decDigits, dif_pos (by omega)]; simp
  | succ k ih =>
   intro m hm;rw [Lib.decDigits]
   split
   ·simp
   ·have := ih (m / 10) (by rw [Nat.pow_succ] at hm; omega);simp; omega
 have := go 5 n (by simpa using h);simpa using this
set_option maxHeartbeats 4000000 in
theorem qlz : ∀ (n : Nat), n < 1000000 → ∀ (w : World),
  Calls Tryz.prog 82 #[.int .i64 n] w fun e w' => e = .returned (.string ⟨(Lib.decDigits n).toArray⟩) ∧ Below w.heap.size w w' := by
 have mixed : Tryz.prog.follows .mixedOrders = true := by kernel_rfl
 intro n
 induction n using Nat.strongRecOn with
 | _ n ih =>
 intro hn w;by_cases h10 : n < 10
 ·have hi : (n : Int) < 10 := by omega
  have hc := convB (w.alloc (.cells #[.int .u8 (48 + (n : Int))] 5)) w.heap.size (48 + (n : Int)) (by
   unfold World.cell?; rw [heap_alloc_new]; rfl)
  rw [digS] at hc;have HD : Hid ((⟨(Lib.decDigits n).toArray⟩ : ByteArray) = ⟨#[UInt8.ofNat (48 + n)]⟩) := by
   show _ = _; rw [Lib.decDigits, dif_pos h10]
  rw [HD.out];clear HD ih;generalize (⟨#[UInt8.ofNat (48 + n)]⟩ : ByteArray) = ch at *;go_enter Tryz.func82, Tryz.ntmps82
  go_wp2_with fail
  go_ret
  exact ⟨rfl, qaf (Nat.le_refl _) _⟩
 ·have hi : ¬ (n : Int) < 10 := by omega
  have IH := ih (n / 10) (by omega) (by omega);obtain ⟨D, hD⟩ : ∃ D : ByteArray, D = ⟨(Lib.decDigits (n / 10)).toArray⟩ := ⟨_, rfl⟩;have hs := qjx (n := n / 10) (by omega);rw [← hD] at IH hs;have HS := Lib.hid (dec_snoc h10);rw [← hD] at HS;rw [HS.out];clear HS hD ih;obtain ⟨d, hd⟩ : ∃ d, d = n % 10 := ⟨_, rfl⟩;obtain ⟨q, hq⟩ : ∃ q, q = n / 10 := ⟨_, rfl⟩;rw [← hd];rw [← hq] at IH;have hdq : (n : Int) % 10 = (d : Int) := by omega
  have hqq : (n : Int) / 10 = (q : Int) := by omega
  have ht1 : (n : Int).tdiv 10 = (q : Int) := by rw [Int.tdiv_eq_ediv_of_nonneg (by omega)]; exact hqq
  have ht2 : (n : Int).tmod 10 = (d : Int) := by rw [Int.tmod_eq_emod_of_nonneg (by omega)]; exact hdq
  have hd9 : (d : Int) < 10 := by omega
  have hz : (⟨#[UInt8.ofNat (48 + d)]⟩ : ByteArray).size = 1 := rfl;have DS := Lib.hid (digS d);generalize (⟨#[UInt8.ofNat (48 + d)]⟩ : ByteArray) = ch at *;have hq0 : (0 : Int) ≤ q := by omega
  have hd0 : (0 : Int) ≤ d := by omega
  have hqn : (q : Int) < 1000000 := by omega
  have hw1 : IntKind.i64.wrap (q : Int) = q := by rw [IntKind.wrap_i64]; omega
  have hw2 : IntKind.i64.wrap (48 + (d : Int)) = 48 + d := by rw [IntKind.wrap_i64]; omega
  have hw3 : IntKind.u8.wrap (48 + (d : Int)) = 48 + d := by rw [IntKind.wrap_u8]; omega
  have hl : ¬ 9223372036854775807 < D.size + 1 := by omega
  have hnn : (n : Int) < 1000000 := by omega
  have IH := Lib.hid IH;clear hd hq hs;go_enter Tryz.func82, Tryz.ntmps82
  go_wp2_with fail
  refine qam (fun _ => True) (fun Y => Below w.drew.heap.size w.drew Y) [] (.held 0 (.held 1 (.held 3 (.held 4 (.held 5 (.held 6 (.two 2 7 (.op 7 (.op 8 (.held 9 (.held 10 .nil)))) (.two 2 8 (.op 8 (.held 9 (.held 10 .nil))) (.op 2 (.held 9 (.held 10 .nil))))))))))) mixed (by kernel_rfl) ?_;have HB0 : Hid (Below w.heap.size w w.drew) := (Below.refl _ _).drew;generalize w.drew = X at *;refine qaa (v := .int .i64 n) rfl rfl rfl (fun _ _ _ h => h) trivial (Below.refl _ _) (fun Y _ _ => by (try simp only [Act.put]); go_simp) ?_;refine qaa (v := .int .i64 q) rfl rfl rfl (fun _ _ _ h => h) trivial (Below.refl _ _) (fun Y _ _ => by (try simp only [Act.put]); go_simp) ?_;refine qaa (v := .int .i64 n) rfl rfl rfl (fun _ _ _ h => h) trivial (Below.refl _ _) (fun Y _ _ => by (try simp only [Act.put]); go_simp) ?_
  refine qaa (v := .int .i64 d) rfl rfl rfl (fun _ _ _ h => h) trivial (Below.refl _ _) (fun Y _ _ => by (try simp only [Act.put]); go_simp) ?_;refine qaa (v := .int .i64 (48 + (d : Int))) rfl rfl rfl (fun _ _ _ h => h) trivial (Below.refl _ _) (fun Y _ _ => by (try simp only [Act.put]); go_simp) ?_;refine qaa (v := .int .u8 (48 + (d : Int))) rfl rfl rfl (fun _ _ _ h => h) trivial (Below.refl _ _) (fun Y _ _ => by (try simp only [Act.put]); go_simp) ?_;refine qa3 ?_ ?_
  ·skip
   refine qac rfl rfl (fun K hK => ?_);go_wp2_with fail
   refine (IH.out X).mono ?_;rintro e W1 ⟨rfl, hb2⟩;have hB3 := Below.trans (Below.refl X.heap.size X) (Below.mono hb2 (Below.size (Below.refl X.heap.size X)));refine hK _ _ ⟨⟨fun _ => trivial, hB3⟩, ?_⟩;clear hK K;refine qac rfl rfl (fun K hK => ?_);go_wp2_with fail
   obtain ⟨W4, hW5⟩ : ∃ V, V = W1.alloc (.cells #[.int .u8 (48 + (d : Int))] 5) := ⟨_, rfl⟩;have hb8 : Below W1.heap.size W1 W4 := by rw [hW5]; exact qaf (Nat.le_refl _) _
   have hc7 : W4.cell? ⟨W1.heap.size, 0, none⟩ = some (.int .u8 (48 + (d : Int))) := by rw [hW5]; unfold World.cell?; rw [heap_alloc_new]; rfl
   have hc7l : W1.heap.size < W4.heap.size := by rw [hW5]; simp
   rw [← hW5];clear hW5;have hB6 := Below.trans hB3 (Below.mono hb8 (Below.size hB3));refine ⟨⟨fun _ => trivial, hB6⟩, ?_⟩;refine qac rfl rfl (fun K hK => ?_);have hcv := convB W4 W1.heap.size (48 + (d : Int)) hc7;rw [DS.out] at hcv;go_wp2_with fail
   refine ⟨⟨fun _ => trivial, hB6⟩, ?_⟩;clear hcv;refine qaa (v := .string (D ++ ch)) rfl rfl rfl (fun _ _ _ h => h) trivial hB6 (fun Y _ _ => by (try simp only [Act.put]); go_simp) ?_;refine qaa (v := .string (D ++ ch)) rfl rfl rfl (fun _ _ _ h => h) trivial hB6 (fun Y _ _ => by (try simp only [Act.put]); go_simp) ?_;refine qao ?_;go_wp2_with fail
   go_ret
   exact ⟨rfl, Below.trans HB0.out (Below.mono hB6 HB0.out.size)⟩
  ·skip
   refine qac rfl rfl (fun K hK => ?_);go_wp2_with fail
   obtain ⟨W9, hW10⟩ : ∃ V, V = X.alloc (.cells #[.int .u8 (48 + (d : Int))] 5) := ⟨_, rfl⟩;have hb13 : Below X.heap.size X W9 := by rw [hW10]; exact qaf (Nat.le_refl _) _
   have hc12 : W9.cell? ⟨X.heap.size, 0, none⟩ = some (.int .u8 (48 + (d : Int))) := by rw [hW10]; unfold World.cell?; rw [heap_alloc_new]; rfl
   have hc12l : X.heap.size < W9.heap.size := by rw [hW10]; simp
   rw [← hW10];clear hW10;have hB11 := Below.trans (Below.refl X.heap.size X) (Below.mono hb13 (Below.size (Below.refl X.heap.size X)));refine ⟨⟨fun _ => trivial, hB11⟩, ?_⟩;refine qa3 ?_ ?_
   ·skip
    refine qac rfl rfl (fun K hK => ?_);go_wp2_with fail
    refine (IH.out W9).mono ?_;rintro e W14 ⟨rfl, hb15⟩;have hB16 := Below.trans hB11 (Below.mono hb15 (Below.size hB11));refine hK _ _ ⟨⟨fun _ => trivial, hB16⟩, ?_⟩;clear hK K;have hcc := (hb15.cell (p := ⟨X.heap.size, 0, none⟩) hc12l).trans hc12;refine qac rfl rfl (fun K hK => ?_);have hcv := convB W14 X.heap.size (48 + (d : Int)) hcc;rw [DS.out] at hcv;go_wp2_with fail
    refine ⟨⟨fun _ => trivial, hB16⟩, ?_⟩;clear hcv;refine qaa (v := .string (D ++ ch)) rfl rfl rfl (fun _ _ _ h => h) trivial hB16 (fun Y _ _ => by (try simp only [Act.put]); go_simp) ?_;refine qaa (v := .string (D ++ ch)) rfl rfl rfl (fun _ _ _ h => h) trivial hB16 (fun Y _ _ => by (try simp only [Act.put]); go_simp) ?_;refine qao ?_;go_wp2_with fail
    go_ret
    exact ⟨rfl, Below.trans HB0.out (Below.mono hB16 HB0.out.size)⟩
   ·skip
    refine qac rfl rfl (fun K hK => ?_);have hcv := convB W9 X.heap.size (48 + (d : Int)) hc12;rw [DS.out] at hcv;go_wp2_with fail
    refine ⟨⟨fun _ => trivial, hB11⟩, ?_⟩;clear hcv;refine qac rfl rfl (fun K hK => ?_);go_wp2_with fail
    refine (IH.out W9).mono ?_;rintro e W17 ⟨rfl, hb18⟩;have hB19 := Below.trans hB11 (Below.mono hb18 (Below.size hB11));refine hK _ _ ⟨⟨fun _ => trivial, hB19⟩, ?_⟩;clear hK K;refine qaa (v := .string (D ++ ch)) rfl rfl rfl (fun _ _ _ h => h) trivial hB19 (fun Y _ _ => by (try simp only [Act.put]); go_simp) ?_;refine qaa (v := .string (D ++ ch)) rfl rfl rfl (fun _ _ _ h => h) trivial hB19 (fun Y _ _ => by (try simp only [Act.put]); go_simp) ?_;refine qao ?_;go_wp2_with fail
    go_ret
    exact ⟨rfl, Below.trans HB0.out (Below.mono hB19 HB0.out.size)⟩
end Go.Proofs.YtpjmdilpldaapaaGreatDoor
