/- The reference's find and hash. -/
import Derived.Test.YtpjmdilpldaapaaDoorCvalid
namespace Go.Proofs.YtpjmdilpldaapaaDoor
open Go.RowKit Go.Sort

theorem idx_miss (x : ByteArray) : ∀ (l : List ByteArray) (i : Nat), x ∉ l → Lib.idxFromS l x i = -1
  | [], _, _ => rfl
  | z :: r, i, h => by
    rw [Lib.idxFromS, if_neg (fun e => h (by rw [e]; simp))]
    exact idx_miss x r (i + 1) (fun hx => h (List.mem_cons_of_mem _ hx))
theorem posS_none {l : List ByteArray} {x : ByteArray} (h : x ∉ l) : posS l x = -1 := idx_miss x l 0 h
theorem idx_hit (x : ByteArray) : ∀ (l : List ByteArray) (i k : Nat) (h : k < l.length), l[k] = x → x ∉ l.take k → Lib.idxFromS l x i = ((i + k : Nat) : Int)
  | [], _, _, h, _, _ => by simp at h
  | z :: r, i, 0, _, e, _ => by
    rw [List.getElem_cons_zero] at e
    rw [Lib.idxFromS, if_pos e]; rfl
  | z :: r, i, k + 1, h, e, hn => by
    rw [List.getElem_cons_succ] at e
    rw [List.take_succ_cons, List.mem_cons, not_or] at hn
    rw [Lib.idxFromS, if_neg (fun e => hn.1 e.symm), idx_hit x r (i + 1) k (by simpa using h) e hn.2]
    omega
theorem posS_first {l : List ByteArray} {x : ByteArray} {k : Nat} (h : k < l.length) (e : l[k] = x) (hn : x ∉ l.take k) : posS l x = k := by
  have := idx_hit x l 0 k h e hn
  rw [Nat.zero_add] at this
  exact this

set_option maxHeartbeats 1000000 in
theorem find_any (l : List ByteArray) (A : Option Addr) (cap : Nat) (x : ByteArray) (w : World) {P : Nat → Prop} (h : RepN w P l A cap) :
    Calls Tryd.prog 66 #[.slice A l.length cap, .string x] w fun e w' => e = .returned (.int .i64 (posS l x)) ∧ w' = w := by
  have hl := h.1
  have hm := h.2.1
  unfold maxLen at hm
  obtain ⟨E, hE⟩ : ∃ E, E = posS l x := ⟨_, rfl⟩
  rw [← hE]
  have HE := Lib.hid hE; clear hE
  have HR := Lib.hid h; clear h
  go_enter Tryd.func66, Tryd.ntmps66
  go_wp2_with fail
  go_loop [5] (fun i => ∃ k : Nat, k ≤ l.length ∧ i = .int .i64 k ∧ Hid (x ∉ l.take k)) (fun i => l.length - (intOf i).toNat)
  case atStart => exact ⟨0, Nat.zero_le _, rfl, by simp [Hid]⟩
  case round =>
    obtain ⟨k, hk, rfl, HN⟩ := hrel
    have i1 : (0 : Int) ≤ (k : Int) := Int.natCast_nonneg _
    by_cases hlt : k < l.length
    · have i2 : (k : Int) < (l.length : Int) := by omega
      obtain ⟨b, off, hA, -, hcl⟩ := HR.out.cells (by intro h; rw [h] at hlt; simp at hlt)
      subst hA
      have hck := hcl k hlt
      by_cases he : l[k] = x
      · have hE2 : E = k := by rw [HE.out]; exact posS_first hlt he HN.out
        subst hE2
        rw [he] at hck
        clear he HE hcl
        go_wp2_with fail
        go_ret
        exact ⟨rfl, rfl⟩
      · have hb : (l[k].toList == x.toList) = false := by rw [Lib.bytes_beq_false_iff]; exact he
        have hb2 : ¬ l[k].toList = x.toList := by rw [← beq_iff_eq, hb]; simp
        have HN2 : Hid (x ∉ l.take (k + 1)) := by
          show _
          rw [List.take_succ_eq_append_getElem hlt, List.mem_append, List.mem_singleton, not_or]
          exact ⟨HN.out, fun e => he e.symm⟩
        obtain ⟨y, hy⟩ : ∃ y, y = l[k] := ⟨_, rfl⟩
        rw [← hy] at hck hb hb2
        clear he hcl HN hy
        go_wp2_with fail
        go_round
        case rel => exact ⟨k + 1, by omega, by go_num, HN2.out⟩
        case measure => simp [intOf]; omega
    · obtain rfl : k = l.length := by omega
      have hE2 : E = -1 := by rw [HE.out]; have := HN.out; rw [List.take_length] at this; exact posS_none this
      subst hE2
      clear HE
      go_wp2_with fail
      go_ret
      exact ⟨rfl, rfl⟩

set_option maxHeartbeats 1000000 in
theorem rhash_any (x : ByteArray) (w : World) (hx : x.size ≤ maxLen) :
    Calls Tryd.prog 65 #[.string x] w fun e w' => e = .returned (.bool (hashB x)) ∧ w' = w := by
  unfold maxLen at hx
  obtain ⟨E, hE⟩ : ∃ E, E = hashB x := ⟨_, rfl⟩
  rw [← hE]
  have HE : Hid (E = (x.data.toList.drop 0).any (· == 35)) := hE; clear hE
  go_enter Tryd.func65, Tryd.ntmps65
  go_wp2_with fail
  go_loop [3] (fun i => ∃ k : Nat, k ≤ x.size ∧ i = .int .i64 k ∧ Hid (E = (x.data.toList.drop k).any (· == 35))) (fun i => x.size - (intOf i).toNat)
  case atStart => exact ⟨0, Nat.zero_le _, rfl, HE.out⟩
  case round =>
    obtain ⟨k, hk, rfl, HN⟩ := hrel
    have i1 : (0 : Int) ≤ (k : Int) := Int.natCast_nonneg _
    by_cases hlt : k < x.size
    · have i2 : (k : Int) < (x.size : Int) := by omega
      have hst : E = ((x[k] == 35) || (x.data.toList.drop (k + 1)).any (· == 35)) := by
        rw [HN.out, List.drop_eq_getElem_cons (by simpa using hlt), List.any_cons]; rfl
      by_cases he : x[k] = 35
      · have hE2 : E = true := by rw [hst, he]; rfl
        subst hE2
        have hq : ((x[k].toNat : Int) == 35) = true := by rw [he]; rfl
        have hq2 : (x[k].toNat : Int) = 35 := by rw [he]; rfl
        clear hst HN HE he
        go_wp2_with fail
        go_ret
        exact ⟨rfl, rfl⟩
      · have hne : x[k].toNat ≠ 35 := fun h => he (UInt8.toNat_inj.1 h)
        have hq : ((x[k].toNat : Int) == 35) = false := by rw [beq_eq_false_iff_ne]; omega
        have hq2 : ¬ (x[k].toNat : Int) = 35 := by omega
        have HN2 : Hid (E = (x.data.toList.drop (k + 1)).any (· == 35)) := by
          show _ = _
          rw [hst, beq_eq_false_iff_ne.2 he, Bool.false_or]
        clear hst HN he
        go_wp2_with fail
        go_round
        case rel => exact ⟨k + 1, by omega, by go_num, HN2.out⟩
        case measure => simp [intOf]; omega
    · obtain rfl : k = x.size := by omega
      have hE2 : E = false := by rw [HN.out, List.drop_of_length_le (by simp)]; rfl
      subst hE2
      clear HE HN
      go_wp2_with fail
      go_ret
      exact ⟨rfl, rfl⟩
end Go.Proofs.YtpjmdilpldaapaaDoor
