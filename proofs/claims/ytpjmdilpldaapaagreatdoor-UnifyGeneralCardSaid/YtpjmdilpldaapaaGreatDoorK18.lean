/- Urdig, Urfresh (joined by shake.py). -/
import Derived.Test.YtpjmdilpldaapaaGreatDoorK12
import Derived.Lib.ItoaNum
import Derived.Laws.BytesArg
set_option maxRecDepth 100000
namespace Go.Proofs.YtpjmdilpldaapaaGreatDoor
open Go.RowKit Go.Sort
theorem convB (W : World) (b : Nat) (c : Int) (h : W.cell? ⟨b, 0, none⟩ = some (.int .u8 c)) :
  (Go.convert 113 9 (.slice (some ⟨b, 0, none⟩) 1 1)).run Tryz.prog W = .ok (.string (strOfNums [c])) W := by
 have hconv := run_convert_bytes_arg (P := Tryz.prog) W 113 5 Tryz.underlying113 Tryz.underlying5 b 0 1 1 [c] rfl (fun i hi => by
  obtain rfl : i = 0 := by omega
  exact h) 9 Tryz.underlying9
 exact hconv
theorem digS (d : Nat) : strOfNums [48 + (d : Int)] = ⟨#[UInt8.ofNat (48 + d)]⟩ := by
 have h : (48 + (d : Int)).toNat = 48 + d := by omega
 show (⟨#[UInt8.ofNat (48 + (d : Int)).toNat]⟩ : ByteArray) = _;rw [h]
theorem dec_snoc {n : Nat} (h : ¬ n < 10) : (⟨(Lib.decDigits n).toArray⟩ : ByteArray) = (⟨(Lib.decDigits (n / 10)).toArray⟩ : ByteArray) ++ (⟨#[UInt8.ofNat (48 + n % 10)]⟩ : ByteArray) := by
 rw [Lib.decDigits, dif_neg h];apply ByteArray.ext;simp [ByteArray.data_append]
theorem qlu {n : Nat} (h : n < 1000000) : (⟨(Lib.decDigits n).toArray⟩ : ByteArray).size ≤ 6 := by
 show (Lib.decDigits n).toArray.size ≤ 6;have go : ∀ (k m : Nat), m < 10 ^ (k + 1) → (Lib.decDigits m).length ≤ k + 1 := by
  intro k
  induction k with
  | zero => intro m hm; rw [Lib.decDigits, dif_pos (by omega)]; simp
  | succ k ih =>
   intro m hm;rw [Lib.decDigits]
   split
   ·simp
   ·have := ih (m / 10) (by rw [Nat.pow_succ] at hm; omega);simp; omega
 have := go 5 n (by simpa using h);simpa using this
set_option maxHeartbeats 4000000 in
theorem qkh : ∀ (n : Nat), n < 1000000 → ∀ (w : World),
  Calls Tryz.prog 82 #[.int .i64 n] w fun e w' => e = .returned (.string ⟨(Lib.decDigits n).toArray⟩) ∧ Below w.heap.size w w' := by
 have mixed : Tryz.prog.follows .mixedOrders = true := by kernel_rfl
 intro n
 induction n using Nat.strongRecOn with
 | _ n ih =>
 intro hn w;by_cases h10 : n < 10
 ·have hi : (n : Int) < 10 := by omega
  have hc := convB (w.alloc (.cells #[.int .u8 (48 + (n : Int))] 5)) w.heap.size (48 + (n : Int)) (by
   unfold World.cell?; rw [heap_alloc_new]; rfl)
  rw [digS] at hc;have HD : Hid ((⟨(Lib.decDigits n).toArray⟩ : ByteArray) = ⟨#[UInt8.ofNat (48 + n)]⟩) := by
   show _ = _; rw [Lib.decDigits, dif_pos h10]
  rw [HD.out];clear HD ih;generalize (⟨#[UInt8.ofNat (48 + n)]⟩ : ByteArray) = ch at *;go_enter Tryz.func82, Tryz.ntmps82
  go_wp2_with fail
  go_ret
  exact ⟨rfl, qaf (Nat.le_refl _) _⟩
 ·have hi : ¬ (n : Int) < 10 := by omega
  have IH := ih (n / 10) (by omega) (by omega);obtain ⟨D, hD⟩ : ∃ D : ByteArray, D = ⟨(Lib.decDigits (n / 10)).toArray⟩ := ⟨_, rfl⟩;have hs := qlu (n := n / 10) (by omega);rw [← hD] at IH hs;have HS := Lib.hid (dec_snoc h10);rw [← hD] at HS;rw [HS.out];clear HS hD ih;obtain ⟨d, hd⟩ : ∃ d, d = n % 10 := ⟨_, rfl⟩;obtain ⟨q, hq⟩ : ∃ q, q = n / 10 := ⟨_, rfl⟩;rw [← hd];rw [← hq] at IH;have hdq : (n : Int) % 10 = (d : Int) := by omega
  have hqq : (n : Int) / 10 = (q : Int) := by omega
  have ht1 : (n : Int).tdiv 10 = (q : Int) := by rw [Int.tdiv_eq_ediv_of_nonneg (by omega)]; exact hqq
  have ht2 : (n : Int).tmod 10 = (d : Int) := by rw [Int.tmod_eq_emod_of_nonneg (by omega)]; exact hdq
  have hd9 : (d : Int) < 10 := by omega
  have hz : (⟨#[UInt8.ofNat (48 + d)]⟩ : ByteArray).size = 1 := rfl;have DS := Lib.hid (digS d);generalize (⟨#[UInt8.ofNat (48 + d)]⟩ : ByteArray) = ch at *;have hq0 : (0 : Int) ≤ q := by omega
  have hd0 : (0 : Int) ≤ d := by omega
  have hqn : (q : Int) < 1000000 := by omega
  have hw1 : IntKind.i64.wrap (q : Int) = q := by rw [IntKind.wrap_i64]; omega
  have hw2 : IntKind.i64.wrap (48 + (d : Int)) = 48 + d := by rw [IntKind.wrap_i64]; omega
  have hw3 : IntKind.u8.wrap (48 + (d : Int)) = 48 + d := by rw [IntKind.wrap_u8]; omega
  have hl : ¬ 9223372036854775807 < D.size + 1 := by omega
  have hnn : (n : Int) < 1000000 := by omega
  have IH := Lib.hid IH;clear hd hq hs;go_enter Tryz.func82, Tryz.ntmps82
  go_wp2_with fail
  refine qal (fun _ => True) (fun Y => Below w.drew.heap.size w.drew Y) [] (.held 0 (.held 1 (.held 3 (.held 4 (.held 5 (.held 6 (.two 2 7 (.op 7 (.op 8 (.held 9 (.held 10 .nil)))) (.two 2 8 (.op 8 (.held 9 (.held 10 .nil))) (.op 2 (.held 9 (.held 10 .nil))))))))))) mixed (by kernel_rfl) ?_;have HB0 : Hid (Below w.heap.size w w.drew) := (Below.refl _ _).drew;generalize w.drew = X at *;refine qaa (v := .int .i64 n) rfl rfl rfl (fun _ _ _ h => h) trivial (Below.refl _ _) (fun Y _ _ => by (try simp only [Act.put]); go_simp) ?_;refine qaa (v := .int .i64 q) rfl rfl rfl (fun _ _ _ h => h) trivial (Below.refl _ _) (fun Y _ _ => by (try simp only [Act.put]); go_simp) ?_;refine qaa (v := .int .i64 n) rfl rfl rfl (fun _ _ _ h => h) trivial (Below.refl _ _) (fun Y _ _ => by (try simp only [Act.put]); go_simp) ?_
  refine qaa (v := .int .i64 d) rfl rfl rfl (fun _ _ _ h => h) trivial (Below.refl _ _) (fun Y _ _ => by (try simp only [Act.put]); go_simp) ?_;refine qaa (v := .int .i64 (48 + (d : Int))) rfl rfl rfl (fun _ _ _ h => h) trivial (Below.refl _ _) (fun Y _ _ => by (try simp only [Act.put]); go_simp) ?_;refine qaa (v := .int .u8 (48 + (d : Int))) rfl rfl rfl (fun _ _ _ h => h) trivial (Below.refl _ _) (fun Y _ _ => by (try simp only [Act.put]); go_simp) ?_;refine qbg ?_ ?_
  ·skip
   refine qab rfl rfl (fun K hK => ?_);go_wp2_with fail
   refine (IH.out X).mono ?_;rintro e W1 ⟨rfl, hb2⟩;have hB3 := Below.trans (Below.refl X.heap.size X) (Below.mono hb2 (Below.size (Below.refl X.heap.size X)));refine hK _ _ ⟨⟨fun _ => trivial, hB3⟩, ?_⟩;clear hK K;refine qab rfl rfl (fun K hK => ?_);go_wp2_with fail
   obtain ⟨W4, hW5⟩ : ∃ V, V = W1.alloc (.cells #[.int .u8 (48 + (d : Int))] 5) := ⟨_, rfl⟩;have hb8 : Below W1.heap.size W1 W4 := by rw [hW5]; exact qaf (Nat.le_refl _) _
   have hc7 : W4.cell? ⟨W1.heap.size, 0, none⟩ = some (.int .u8 (48 + (d : Int))) := by rw [hW5]; unfold World.cell?; rw [heap_alloc_new]; rfl
   have hc7l : W1.heap.size < W4.heap.size := by rw [hW5]; simp
   rw [← hW5];clear hW5;have hB6 := Below.trans hB3 (Below.mono hb8 (Below.size hB3));refine ⟨⟨fun _ => trivial, hB6⟩, ?_⟩;refine qab rfl rfl (fun K hK => ?_);have hcv := convB W4 W1.heap.size (48 + (d : Int)) hc7;rw [DS.out] at hcv;go_wp2_with fail
   refine ⟨⟨fun _ => trivial, hB6⟩, ?_⟩;clear hcv;refine qaa (v := .string (D ++ ch)) rfl rfl rfl (fun _ _ _ h => h) trivial hB6 (fun Y _ _ => by (try simp only [Act.put]); go_simp) ?_;refine qaa (v := .string (D ++ ch)) rfl rfl rfl (fun _ _ _ h => h) trivial hB6 (fun Y _ _ => by (try simp only [Act.put]); go_simp) ?_;refine qap ?_;go_wp2_with fail
   go_ret
   exact ⟨rfl, Below.trans HB0.out (Below.mono hB6 HB0.out.size)⟩
  ·skip
   refine qab rfl rfl (fun K hK => ?_);go_wp2_with fail
   obtain ⟨W9, hW10⟩ : ∃ V, V = X.alloc (.cells #[.int .u8 (48 + (d : Int))] 5) := ⟨_, rfl⟩;have hb13 : Below X.heap.size X W9 := by rw [hW10]; exact qaf (Nat.le_refl _) _
   have hc12 : W9.cell? ⟨X.heap.size, 0, none⟩ = some (.int .u8 (48 + (d : Int))) := by rw [hW10]; unfold World.cell?; rw [heap_alloc_new]; rfl
   have hc12l : X.heap.size < W9.heap.size := by rw [hW10]; simp
   rw [← hW10];clear hW10;have hB11 := Below.trans (Below.refl X.heap.size X) (Below.mono hb13 (Below.size (Below.refl X.heap.size X)));refine ⟨⟨fun _ => trivial, hB11⟩, ?_⟩;refine qbg ?_ ?_
   ·skip
    refine qab rfl rfl (fun K hK => ?_);go_wp2_with fail
    refine (IH.out W9).mono ?_;rintro e W14 ⟨rfl, hb15⟩;have hB16 := Below.trans hB11 (Below.mono hb15 (Below.size hB11));refine hK _ _ ⟨⟨fun _ => trivial, hB16⟩, ?_⟩;clear hK K;have hcc := (hb15.cell (p := ⟨X.heap.size, 0, none⟩) hc12l).trans hc12;refine qab rfl rfl (fun K hK => ?_);have hcv := convB W14 X.heap.size (48 + (d : Int)) hcc;rw [DS.out] at hcv;go_wp2_with fail
    refine ⟨⟨fun _ => trivial, hB16⟩, ?_⟩;clear hcv;refine qaa (v := .string (D ++ ch)) rfl rfl rfl (fun _ _ _ h => h) trivial hB16 (fun Y _ _ => by (try simp only [Act.put]); go_simp) ?_;refine qaa (v := .string (D ++ ch)) rfl rfl rfl (fun _ _ _ h => h) trivial hB16 (fun Y _ _ => by (try simp only [Act.put]); go_simp) ?_;refine qap ?_;go_wp2_with fail
    go_ret
    exact ⟨rfl, Below.trans HB0.out (Below.mono hB16 HB0.out.size)⟩
   ·skip
    refine qab rfl rfl (fun K hK => ?_);have hcv := convB W9 X.heap.size (48 + (d : Int)) hc12;rw [DS.out] at hcv;go_wp2_with fail
    refine ⟨⟨fun _ => trivial, hB11⟩, ?_⟩;clear hcv;refine qab rfl rfl (fun K hK => ?_);go_wp2_with fail
    refine (IH.out W9).mono ?_;rintro e W17 ⟨rfl, hb18⟩;have hB19 := Below.trans hB11 (Below.mono hb18 (Below.size hB11));refine hK _ _ ⟨⟨fun _ => trivial, hB19⟩, ?_⟩;clear hK K;refine qaa (v := .string (D ++ ch)) rfl rfl rfl (fun _ _ _ h => h) trivial hB19 (fun Y _ _ => by (try simp only [Act.put]); go_simp) ?_;refine qaa (v := .string (D ++ ch)) rfl rfl rfl (fun _ _ _ h => h) trivial hB19 (fun Y _ _ => by (try simp only [Act.put]); go_simp) ?_;refine qap ?_;go_wp2_with fail
    go_ret
    exact ⟨rfl, Below.trans HB0.out (Below.mono hB19 HB0.out.size)⟩
theorem qmj {L : List Tm} {g : ByteArray} {k : Nat} (h : k < L.length) : decide (g ∈ (L.take (k + 1)).map Tm.name) = (decide (g ∈ (L.take k).map Tm.name) || decide (L[k].name = g)) := by
 rw [List.take_succ_eq_append_getElem h, List.map_append, Bool.eq_iff_iff];simp only [List.mem_append, List.map_cons, List.map_nil, List.mem_singleton, Bool.or_eq_true, decide_eq_true_eq];constructor
 ·rintro (h | h)
  ·exact .inl h
  ·exact .inr h.symm
 ·rintro (h | h)
  ·exact .inl h
  ·exact .inr h.symm
theorem name_dec (a b : ByteArray) : decide (a = b) = (a.toList == b.toList) := by
 rw [Bool.eq_iff_iff, decide_eq_true_iff, beq_iff_eq];exact ⟨fun h => by rw [h], fun h => by rw [ByteArray.toList_eq, ByteArray.toList_eq] at h; exact ByteArray.ext (Array.toList_inj.1 h)⟩
set_option maxHeartbeats 4000000 in
theorem qma (L : List Tm) (A : Option Addr) (c n : Nat) (w : World) (hn : n + L.length < 999999) (hrep : RepS w (fun b => b < w.heap.size) L A c) :
  Calls Tryz.prog 58 #[.slice A L.length c, .int .i64 n] w fun e w' => e = .returned (.tuple #[.string (qax (qa9 (L.map Tm.name) n)), .int .i64 ((qa9 (L.map Tm.name) n : Nat) + 1)]) ∧ Below w.heap.size w w' := by
 obtain ⟨hr1, hr2, hr3⟩ := hrep;obtain ⟨F, hF⟩ : ∃ F, F = qa9 (L.map Tm.name) n := ⟨_, rfl⟩;rw [← hF];obtain ⟨hf1, hf2, hf3, hf4⟩ := qbq (L.map Tm.name) n;rw [← hF] at hf1 hf2 hf3 hf4;rw [List.length_map] at hf2;have HF1 : Hid (qax F ∉ L.map Tm.name ∧ ∀ i, n ≤ i → i < F → qax i ∈ L.map Tm.name) := ⟨hf3, hf4⟩;clear hf3 hf4 hF;go_enter Tryz.func58, Tryz.ntmps58
 go_wp2_with fail
 go_loopw [1] (fun iv wr => ∃ m : Nat, iv = .int .i64 m ∧ n ≤ m ∧ m ≤ F ∧ Hid (Below w.heap.size w wr)) (fun iv _ => F + 1 - (intOf iv).toNat)
 case atStart => exact ⟨n, rfl, Nat.le_refl _, hf1, Below.refl _ _⟩
 case round =>
  obtain ⟨m, rfl, hn1, hn2, HB⟩ := hrel;have DG := qkh m (by omega) wr;obtain ⟨nm, hnm⟩ : ∃ nm : ByteArray, nm = ⟨(Lib.decDigits m).toArray⟩ := ⟨_, rfl⟩;have hgm : qax m = (⟨#[103]⟩ : ByteArray) ++ nm := by rw [hnm]; rfl
  have hsz : nm.size ≤ 6 := by rw [hnm]; exact qlu (by omega)
  rw [← hnm] at DG;obtain ⟨g, hg⟩ : ∃ g, g = qax m := ⟨_, rfl⟩;rw [← hg] at hgm;have HG := Lib.hid hg;have HGM := Lib.hid hgm;have DG := Lib.hid DG;have m0 : (0 : Int) ≤ (m : Int) := by omega
  have mx : (m : Int) < 1000000 := by omega
  clear hnm hg hgm;go_wp2_with fail
  refine DG.out.mono ?_; clear DG;rintro e w2 ⟨rfl, hl2⟩;have HB2 := Lib.hid (qae HB.out hl2 HB.out.size);clear HB hl2;go_wp2_with fail
  rw [← HGM.out];clear HGM hsz;generalize wr = wo at *;go_loopw [7, 8] (fun uv kv wr => ∃ (k : Nat) (q : Bool), k ≤ L.length ∧ kv = .int .i64 k ∧ uv = .bool q ∧ Hid (q = decide (g ∈ (L.take k).map Tm.name)) ∧ Hid (Below w.heap.size w wr)) (fun _ kv _ => L.length - (intOf kv).toNat)
  case atStart => exact ⟨0, false, Nat.zero_le _, rfl, rfl, (by show _ = _; simp), HB2.out⟩
  case round =>
   clear HB2;obtain ⟨k, q, hk, rfl, rfl, HQ, HB3⟩ := hrel;have k0 : (0 : Int) ≤ (k : Int) := by omega
   by_cases hlt : k < L.length
   ·have k1 : (k : Int) < (L.length : Int) := by omega
    rcases hr3 with h | ⟨b, off, hA, hbB, hl⟩
    ·rw [h] at hlt; simp at hlt
    subst hA;obtain ⟨Ak, ck, h0, h1, h2, h3, -⟩ := qao.get hl k hlt;have h1' := (HB3.out.cell (p := ⟨b, off + k * 4 + 1, none⟩) hbB).trans h1;have hs := qmj (L := L) (g := g) hlt;rw [← HQ.out, name_dec] at hs;generalize L[k].name = nk at *;have HS := Lib.hid hs;clear h0 h1 h2 h3 hs HQ
    cases q with
    | true =>
     have HS2 := Lib.hid (HS.out.trans (Bool.true_or _));clear HS;go_wp2_with fail
     go_roundw
     case rel => exact ⟨k + 1, true, by omega, by go_num, rfl, HS2.out.symm, HB3.out⟩
     case measure => simp [intOf]; omega
    | false =>
     have HS2 := Lib.hid (HS.out.trans (Bool.false_or _));clear HS;go_wp2_with fail
     go_roundw
     case rel => exact ⟨k + 1, _, by omega, by go_num, rfl, HS2.out.symm, HB3.out⟩
     case measure => simp [intOf]; omega
   ·obtain rfl : k = L.length := by omega
    have hq := HQ.out;rw [List.take_length] at hq
    cases q with
    | true =>
     have hin : qax m ∈ L.map Tm.name := by rw [← HG.out]; exact of_decide_eq_true hq.symm
     have hlt3 : m < F := by
      rcases Nat.lt_or_eq_of_le hn2 with h | h
      ·exact h
      ·rw [h] at hin; exact absurd hin HF1.out.1
     clear hq hin HQ;go_wp2_with fail
     go_roundw
     case rel => exact ⟨m + 1, by go_num, by omega, by omega, HB3.out⟩
     case measure => simp [intOf]; omega
    | false =>
     have hnot : qax m ∉ L.map Tm.name := by rw [← HG.out]; exact of_decide_eq_false hq.symm
     obtain rfl : m = F := by
      rcases Nat.lt_or_eq_of_le hn2 with h | h
      ·exact absurd (HF1.out.2 m hn1 h) hnot
      ·exact h
     clear hq hnot HQ;go_wp2_with fail
     go_ret2
     exact ⟨by rw [HG.out]; rfl, HB3.out⟩
end Go.Proofs.YtpjmdilpldaapaaGreatDoor
