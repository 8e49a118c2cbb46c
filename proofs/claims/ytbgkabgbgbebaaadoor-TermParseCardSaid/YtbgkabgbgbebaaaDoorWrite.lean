/- term.write and term.Format. -/
import Derived.StillTailTactics
import Derived.Test.YtbgkabgbgbebaaaDoorBuilder
import Derived.Test.YtbgkabgbgbebaaaDoorMix
import Derived.Test.YtbgkabgbgbebaaaDoorText
namespace Go.Proofs.YtbgkabgbgbebaaaDoor
open Go.RowKit

/-- what write leaves: the builder has the text behind what it had -/
def Written (B b : Nat) (l : List UInt8) (t : Tm) (w : World) (e : Ending) (w' : World) : Prop :=
  e = .returned (.tuple #[]) ∧ IsB B b (l ++ t.text) w' ∧ Wrote B b w w'

theorem Wrote.alloc {B b : Nat} {u w : World} (h : Wrote B b u w) (hB : B ≤ w.heap.size) (o : Obj) : Wrote B b u (w.alloc o) := ⟨h.below.alloc hB o, h.others.alloc o⟩
theorem Wrote.drewN {B b : Nat} {u w : World} (h : Wrote B b u w) (n : Nat) : Wrote B b u (w.drewN n) := ⟨⟨h.below.os, h.below.tape, h.below.output, h.below.size, h.below.block⟩, h.others⟩
theorem IsB.drew {B b : Nat} {l : List UInt8} {w : World} (h : IsB B b l w) : IsB B b l w.drew := h
theorem IsB.drewN {B b : Nat} {l : List UInt8} {w : World} (h : IsB B b l w) (n : Nat) : IsB B b l (w.drewN n) := h
theorem IsB.at {B b : Nat} {l : List UInt8} {w : World} (h : IsB B b l w) : B ≤ b ∧ b < w.heap.size := by
  rcases h with h | h
  · exact ⟨h.1, h.lt⟩
  · exact ⟨h.1, h.lt⟩
theorem Wrote.box {B b : Nat} {u w : World} (h : Wrote B b u w) {p : Nat} {cs : Array Value} {fr : Nat × Nat} (hp : u.heap[p]? = some (.cells cs 24 fr)) (hne : p ≠ b) : w.heap[p]? = some (.cells cs 24 fr) :=
  h.others p _ hp (fun e => hne (Option.some.inj e)) (fun c fz e => by injection e with _ e2 _; exact absurd e2 (by decide))
theorem word_get (s : Nat) (_hs : s ≤ 5) : ⟨(sortWord s).toArray⟩ = wordList.getD s ByteArray.empty := (bytes_of_list _).symm
theorem word_len (s : Nat) (hs : s ≤ 5) : (⟨(sortWord s).toArray⟩ : ByteArray).size ≤ 5 := by
  obtain h | h | h | h | h | h : s = 0 ∨ s = 1 ∨ s = 2 ∨ s = 3 ∨ s = 4 ∨ s = 5 := by omega
  all_goals (subst h; decide +kernel)
theorem list_append (a b : ByteArray) : (a ++ b).data.toList = a.data.toList ++ b.data.toList := by simp


set_option maxHeartbeats 2000000 in
set_option maxRecDepth 100000 in
theorem write_var (B b : Nat) (nm : ByteArray) (s : Nat) (hs : s ≤ 5) (A : Option Addr) (cap : Nat) (l : List UInt8) (w : World) (hnm : nm.size ≤ 24) (hw : Words B w) (hI : IsB B b l w) (hlen : l.length ≤ 1000000000) :
    Calls Tryd.prog 59 #[.pointer (some ⟨b, 0, none⟩), (Tm.mk 1 nm s []).val A cap] w (Written B b l (.mk 1 nm s []) w) := by
  obtain ⟨V, hV⟩ : ∃ V, V = w.alloc (.cells #[.int .i64 1, .string nm, .int .i64 s, .slice A 0 cap] 24) := ⟨_, rfl⟩
  obtain ⟨hBb, hlt⟩ := hI.at
  have hIV : IsB B b l V := by rw [hV]; exact hI.alloc _
  have hWV : Wrote B b w V := by rw [hV]; exact (Wrote.refl _ _ _).alloc (by omega) _
  have hbx : V.heap[w.heap.size]? = some (.cells #[.int .i64 1, .string nm, .int .i64 s, .slice A 0 cap] 24 (0, 0)) := by rw [hV]; exact heap_alloc_new _ _
  have hne : w.heap.size ≠ b := by omega
  have hwV : Words B V := hw.keep (fun b' h => hWV.below.block b' h)
  have hsz : V.heap.size = w.heap.size + 1 := by rw [hV]; simp
  have h63 : (⟨#[63]⟩ ++ nm : ByteArray).size = 1 + nm.size := by rw [ByteArray.size_append]; rfl
  have WS := Lib.hid (writeString_any B b l (⟨#[63]⟩ ++ nm) V hIV (by omega) (by omega))
  obtain ⟨r0, r1, r2, r3, -⟩ := box_at hbx
  have q1 : ¬ 9223372036854775807 < 1 + nm.size := by omega
  have HV := Lib.hid hV; clear hV hI hIV hw
  have HWV := Lib.hid hWV; clear hWV
  have HBX := Lib.hid hbx; clear hbx
  have HWW := Lib.hid hwV; clear hwV h63
  have HT : Hid ((Tm.mk 1 nm s []).text = 63 :: (nm.data.toList ++ (if (s : Int) = 0 then [] else 58 :: sortWord s))) := by rw [Tm.text]; exact if_pos rfl
  simp only [Tm.val, Tm.kind, Tm.name, Tm.sort, Tm.kids]
  go_enter Tryd.func59, Tryd.ntmps59
  go_wp2_with fail
  rw [← HV.out]
  go_wp2_with fail
  refine WS.out.mono ?_; clear WS r0 r1 r2 r3 q1
  rintro e w1 ⟨rfl, hI1, hW1⟩
  have hbx1 := hW1.box HBX.out hne
  obtain ⟨r0, r1, r2, r3, -⟩ := box_at hbx1
  have HI1 := Lib.hid hI1; clear hI1
  have HW1 := Lib.hid (HWV.out.trans hW1)
  have HWW1 := Lib.hid (HWW.out.keep (fun b' h => hW1.below.block b' h)); clear hW1 hbx1 HV HWV HBX HWW
  obtain ⟨wb, wo, c, hB0, hwb, g0, g1⟩ := HWW1.out
  rw [list_append] at HI1
  by_cases hs0 : s = 0
  · subst hs0
    clear g1
    go_wp2_with fail
    go_end0
    refine ⟨rfl, ?_, HW1.out⟩
    rw [HT.out, if_pos (show ((0 : Nat) : Int) = 0 from rfl), List.append_nil]
    exact HI1.out
  · have hj := g1 s (by omega)
    rw [← word_get s hs] at hj
    have q1 : ((s : Int) == 0) = false := by rw [beq_eq_false_iff_ne]; omega
    have q2 : ((s : Int) != 0) = true := by simp; omega
    have q3 : (0 : Int) ≤ (s : Int) := by omega
    have q4 : (s : Int) < 6 := by omega
    have hwl := word_len s hs
    obtain ⟨wd, hwd⟩ : ∃ wd, wd = (⟨(sortWord s).toArray⟩ : ByteArray) := ⟨_, rfl⟩
    rw [← hwd] at hj hwl
    have q5 : ¬ 9223372036854775807 < 1 + wd.size := by omega
    have h58 : (⟨#[58]⟩ ++ wd : ByteArray).size = 1 + wd.size := by rw [ByteArray.size_append]; rfl
    have hnl := size_list nm
    have hlt1 := HI1.out.at
    have WS := Lib.hid (writeString_any B b _ (⟨#[58]⟩ ++ wd) w1 HI1.out (by simp only [List.length_append, List.length_cons, List.length_nil]; rw [← hnl, h58]; omega) (by omega))
    rw [list_append] at WS
    have HWD : Hid (wd.data.toList = sortWord s) := by rw [hwd]; exact rfl
    have HS0 := Lib.hid hs0
    clear g1 hwd h58 hnl hs0 hwl
    go_wp2_with fail
    refine WS.out.mono ?_
    rintro e w2 ⟨rfl, hI2, hW2⟩
    have HI2 := Lib.hid hI2; clear hI2
    have HW2 := Lib.hid (HW1.out.trans hW2); clear hW2 hj g0 r0 r1 r2 r3 WS
    go_wp2_with fail
    go_end0
    refine ⟨rfl, ?_, HW2.out⟩
    rw [HT.out, if_neg (by have := HS0.out; omega), ← HWD.out]
    have := HI2.out
    simp only [List.append_assoc] at this
    exact this

set_option maxHeartbeats 2000000 in
set_option maxRecDepth 100000 in
theorem write_atom (B b : Nat) (nm : ByteArray) (s : Nat) (hs : s ≤ 5) (A : Option Addr) (cap : Nat) (l : List UInt8) (w : World) (hnm : nm.size ≤ 24) (hw : Words B w) (hI : IsB B b l w) (hlen : l.length ≤ 1000000000) :
    Calls Tryd.prog 59 #[.pointer (some ⟨b, 0, none⟩), (Tm.mk 2 nm s []).val A cap] w (Written B b l (.mk 2 nm s []) w) := by
  have mixed : Tryd.prog.follows .mixedOrders = true := by kernel_rfl
  obtain ⟨V, hV⟩ : ∃ V, V = w.alloc (.cells #[.int .i64 2, .string nm, .int .i64 s, .slice A 0 cap] 24) := ⟨_, rfl⟩
  obtain ⟨hBb, hlt⟩ := hI.at
  have hIV : IsB B b l V := by rw [hV]; exact hI.alloc _
  have hWV : Wrote B b w V := by rw [hV]; exact (Wrote.refl _ _ _).alloc (by omega) _
  have hbx : V.heap[w.heap.size]? = some (.cells #[.int .i64 2, .string nm, .int .i64 s, .slice A 0 cap] 24 (0, 0)) := by rw [hV]; exact heap_alloc_new _ _
  have hne : w.heap.size ≠ b := by omega
  have hwV : Words B V := hw.keep (fun b' h => hWV.below.block b' h)
  have hsz : V.heap.size = w.heap.size + 1 := by rw [hV]; simp
  obtain ⟨wb, wo, c, hB0, hwb, g0, g1⟩ := hwV
  have hj := g1 s (by omega)
  rw [← word_get s hs] at hj
  have hwl := word_len s hs
  obtain ⟨wd, hwd⟩ : ∃ wd, wd = (⟨(sortWord s).toArray⟩ : ByteArray) := ⟨_, rfl⟩
  have HWD : Hid (wd.data.toList = sortWord s) := by rw [hwd]; exact rfl
  rw [← hwd] at hj hwl
  have q1 : ¬ 9223372036854775807 < nm.size + 1 := by omega
  have q5 : ¬ 9223372036854775807 < nm.size + 1 + wd.size := by omega
  have q3 : (0 : Int) ≤ (s : Int) := by omega
  have q4 : (s : Int) < 6 := by omega
  have h58 : (nm ++ ⟨#[58]⟩ ++ wd : ByteArray).size = nm.size + 1 + wd.size := by rw [ByteArray.size_append, ByteArray.size_append]; rfl
  obtain ⟨st, hst⟩ : ∃ st, st = nm ++ (⟨#[58]⟩ : ByteArray) ++ wd := ⟨_, rfl⟩
  rw [← hst] at h58
  have WS := Lib.hid (writeString_any B b l st V.drew hIV.drew (by omega) (by show B ≤ V.heap.size; omega))
  obtain ⟨r0, r1, r2, r3, -⟩ := box_at (show V.drew.heap[w.heap.size]? = _ from hbx)
  have HV := Lib.hid hV; clear hV hI hIV hw
  have HWV : Hid (Wrote B b w V.drew) := hWV.drewN 1; clear hWV
  have HT : Hid ((Tm.mk 2 nm s []).text = nm.data.toList ++ 58 :: sortWord s) := by rw [Tm.text]; exact (if_neg (by omega)).trans (if_pos rfl)
  have HST : Hid (st.data.toList = nm.data.toList ++ 58 :: sortWord s) := by
    rw [hst, list_append, list_append, HWD.out, List.append_assoc]; exact rfl
  clear hwd g1 hbx h58 hwl hnm hlen
  simp only [Tm.val, Tm.kind, Tm.name, Tm.sort, Tm.kids]
  go_enter Tryd.func59, Tryd.ntmps59
  go_wp2_with fail
  rw [← HV.out]
  go_wp2_with fail
  go_still_tail 10, mixed
  change wpList _ _ _ _ _ V.drew
  generalize V.drew = Z at *
  go_wp2_with fail
  rw [← hst]
  refine WS.out.mono ?_
  rintro e w2 ⟨rfl, hI2, hW2⟩
  have HI2 := Lib.hid hI2; clear hI2
  have HW2 := Lib.hid (HWV.out.trans hW2); clear hW2 hj g0 r0 r1 r2 r3 WS
  go_wp2_with fail
  go_end0
  refine ⟨rfl, ?_, HW2.out⟩
  rw [HT.out, ← HST.out]
  exact HI2.out
theorem Tm.more_append : ∀ a b : List Tm, Tm.more (a ++ b) = Tm.more a ++ Tm.more b
  | [], b => by simp [Tm.more]
  | t :: a, b => by simp only [List.cons_append, Tm.more, Tm.more_append a b, List.append_assoc]
theorem Tm.texts_take_le (l : List Tm) (k : Nat) : (Tm.texts (l.take k)).length ≤ (Tm.texts l).length := by
  conv => rhs; rw [← List.take_append_drop k l]
  cases h : l.take k with
  | nil => simp [Tm.texts]
  | cons t r => simp only [List.cons_append, Tm.texts, Tm.more_append, List.length_append]; omega
theorem check_kid {l : List Tm} (h : Tm.checks l = 0) (k : Nat) (hk : k < l.length) : l[k].check = 0 := by
  induction l generalizing k with
  | nil => simp at hk
  | cons t r ih =>
    obtain ⟨h1, h2⟩ := checks_cons h
    cases k with
    | zero => exact h1
    | succ k => exact ih h2 k (by simpa using hk)
theorem name_size {nm : ByteArray} (h : nameL nm.data.toList = true) : nm.size ≤ 24 := by
  rw [size_list]; exact (nameL_parts h).1

set_option maxHeartbeats 4000000 in
set_option maxRecDepth 100000 in
theorem write_any (B b : Nat) (n : Nat) : ∀ (t : Tm) (A : Option Addr) (cap : Nat) (l : List UInt8) (w : World), t.size ≤ n → n ≤ 1000000 → t.check = 0 → RepT w B t A cap → Words B w → IsB B b l w → l.length + t.text.length ≤ 1000000000 →
    Calls Tryd.prog 59 #[.pointer (some ⟨b, 0, none⟩), t.val A cap] w (Written B b l t w) := by
  induction n with
  | zero => intro t _ _ _ _ h; have := t.size_pos; omega
  | succ n ih =>
    intro t A cap l w hn hb hck hrep hw hI hlen
    obtain ⟨tk, nm, ts, kids⟩ := t
    by_cases k1 : tk = 1
    · obtain ⟨h1, h2, h3, h4⟩ := check_leaf (.inl k1) hck
      subst k1 h3
      obtain ⟨s, rfl⟩ := Int.eq_ofNat_of_zero_le h1
      exact write_var B b nm s (by omega) A cap l w (name_size h4) hw hI (by omega)
    by_cases k2 : tk = 2
    · obtain ⟨h1, h2, h3, h4⟩ := check_leaf (.inr k2) hck
      subst k2 h3
      obtain ⟨s, rfl⟩ := Int.eq_ofNat_of_zero_le h1
      exact write_atom B b nm s (by omega) A cap l w (name_size h4) hw hI (by omega)
    obtain ⟨h1, h2, h3, h4⟩ := check_app3 (by omega) hck
    subst h1 h2
    clear k1 k2 hck
    have hnm := name_size h3
    have htx : (Tm.mk 3 nm 0 kids).text = nm.data.toList ++ 40 :: (Tm.texts kids ++ [41]) := by rw [Tm.text, if_neg (by omega), if_neg (by omega)]
    rw [Tm.size] at hn
    have hln : l.length + (nm.size + (Tm.texts kids).length + 2) ≤ 1000000000 := by
      rw [htx] at hlen; simp only [List.length_append, List.length_cons, List.length_nil, ← size_list] at hlen; omega
    rw [RepT_mk] at hrep
    obtain ⟨-, hr2, hr3, hr4⟩ := hrep
    have hls := Tm.length_le_sizes kids
    obtain ⟨V, hV⟩ : ∃ V, V = w.alloc (.cells #[.int .i64 3, .string nm, .int .i64 0, .slice A kids.length cap] 24) := ⟨_, rfl⟩
    obtain ⟨hBb, hlt⟩ := hI.at
    have hIV : IsB B b l V := by rw [hV]; exact hI.alloc _
    have hWV : Wrote B b w V := by rw [hV]; exact (Wrote.refl _ _ _).alloc (by omega) _
    have hbx : V.heap[w.heap.size]? = some (.cells #[.int .i64 3, .string nm, .int .i64 0, .slice A kids.length cap] 24 (0, 0)) := by rw [hV]; exact heap_alloc_new _ _
    have hne : w.heap.size ≠ b := by omega
    have hsz : V.heap.size = w.heap.size + 1 := by rw [hV]; simp
    have q1 : ¬ 9223372036854775807 < nm.size + 1 := by omega
    have h40 : (nm ++ ⟨#[40]⟩ : ByteArray).size = nm.size + 1 := by rw [ByteArray.size_append]; rfl
    have WS := Lib.hid (writeString_any B b l (nm ++ ⟨#[40]⟩) V hIV (by omega) (by omega))
    rw [list_append] at WS
    obtain ⟨r0, r1, r2, r3, -⟩ := box_at hbx
    have HV := Lib.hid hV; clear hV hIV hI
    have HWV := Lib.hid hWV; clear hWV
    have HBX := Lib.hid hbx; clear hbx
    have HW := Lib.hid hw; clear hw
    have HTX := Lib.hid htx; clear htx
    have HCK := Lib.hid h4; clear h4 h3 h40 hlen
    have IH := Lib.hid ih; clear ih
    have HNL := Lib.hid (size_list nm)
    simp only [Tm.val, Tm.kind, Tm.name, Tm.sort, Tm.kids]
    go_enter Tryd.func59, Tryd.ntmps59
    go_wp2_with fail
    rw [← HV.out]
    go_wp2_with fail
    refine WS.out.mono ?_; clear WS r0 r1 r2 r3 q1
    rintro e w1 ⟨rfl, hI1, hW1⟩
    have hbx1 := hW1.box HBX.out hne
    obtain ⟨r0, r1, r2, r3, -⟩ := box_at hbx1
    have HI1 := Lib.hid hI1; clear hI1
    have HW1 := Lib.hid (HWV.out.trans hW1); clear hW1 hbx1 HWV HV HBX
    go_wp2_with fail
    clear r0 r1 r2 r3
    go_loopw [47] (fun i wr => ∃ k : Nat, k ≤ kids.length ∧ i = .int .i64 k ∧ Hid (IsB B b (l ++ (nm.data.toList ++ [40]) ++ Tm.texts (kids.take k)) wr) ∧ Hid (Wrote B b w wr)) (fun i _ => kids.length - (intOf i).toNat)
    case atStart => exact ⟨0, Nat.zero_le _, rfl, by rw [List.take_zero, Tm.texts, List.append_nil]; exact HI1, HW1⟩
    case round =>
      obtain ⟨k, hk, rfl, HI, HWR⟩ := hrel
      have i1 : (0 : Int) ≤ (k : Int) := Int.natCast_nonneg _
      have hiat := HI.out.at
      by_cases hlt2 : k < kids.length
      · have i2 : (k : Int) < (kids.length : Int) := by omega
        rcases hr4 with rfl | ⟨kb, off, rfl, hbB, hl⟩
        · simp at hlt2
        obtain ⟨A', cap', c0, c1, c2, c3, c5⟩ := (hl.below HWR.out.below hbB).get k hlt2
        have hsg := Tm.sizes_get kids k hlt2
        have htt := Tm.texts_take_succ kids k hlt2
        have htl := Tm.texts_take_le kids (k + 1)
        have hln2 := congrArg List.length htt
        rw [List.length_append, List.length_append] at hln2
        have hnl := HNL.out
        have hkc := check_kid HCK.out k hlt2
        obtain ⟨X, hX⟩ : ∃ X, X = wr.alloc (.cells #[.int .i64 kids[k].kind, .string kids[k].name, .int .i64 kids[k].sort, .slice A' kids[k].kids.length cap'] 24) := ⟨_, rfl⟩
        have hIX : IsB B b (l ++ (nm.data.toList ++ [40]) ++ Tm.texts (kids.take k)) X := by rw [hX]; exact HI.out.alloc _
        have hWX : Wrote B b w X := by rw [hX]; exact HWR.out.alloc (by omega) _
        have hbX : X.heap[wr.heap.size]? = some (.cells #[.int .i64 kids[k].kind, .string kids[k].name, .int .i64 kids[k].sort, .slice A' kids[k].kids.length cap'] 24 (0, 0)) := by rw [hX]; exact heap_alloc_new _ _
        have hneX : wr.heap.size ≠ b := by omega
        by_cases hk0 : k = 0
        · have q0 : decide (0 < k) = false := decide_eq_false (by omega)
          have CON := IH.out kids[k] A' cap' _ X (by omega) (by omega) hkc (RepP.mono (fun _ h => h) (fun p (hp : p.block < B) => by rw [hWX.below.cell hp, HWR.out.below.cell hp]) _ _ _ c5) (HW.out.keep (fun b' h => hWX.below.block b' h)) hIX (by simp only [List.length_append, List.length_cons, List.length_nil] at *; omega)
          simp only [Tm.val] at CON
          have CON := Lib.hid CON
          have HT := Lib.hid (show l ++ (nm.data.toList ++ [40]) ++ Tm.texts (kids.take k) ++ kids[k].text = l ++ (nm.data.toList ++ [40]) ++ Tm.texts (kids.take (k + 1)) by
            rw [htt, if_pos hk0, List.nil_append, List.append_assoc])
          have HX := Lib.hid hX; clear hX hIX hbX hk0
          have HWX := Lib.hid hWX; clear hWX c5 htt hl htl hln2 hnl hkc
          go_wp2_with fail
          rw [← HX.out]
          refine CON.out.mono ?_; clear CON c0 c1 c2 c3
          rintro e w2 ⟨rfl, hI2, hW2⟩
          have HI2 := Lib.hid hI2; clear hI2
          have HW2 := Lib.hid (HWX.out.trans hW2); clear hW2
          go_wp2_with fail
          go_roundw
          case rel => exact ⟨k + 1, by omega, by go_num, by rw [← HT.out]; exact HI2.out, HW2.out⟩
          case measure => simp [intOf]; omega
        · have i3 : 0 < k := by omega
          have WS := Lib.hid (writeString_any B b _ ⟨#[44, 32]⟩ X hIX (by simp only [List.length_append, List.length_cons, List.length_nil] at *; have : (⟨#[44, 32]⟩ : ByteArray).size = 2 := rfl; omega) (by have := hIX.at; omega))
          have CON : Hid (∀ Z, IsB B b (l ++ (nm.data.toList ++ [40]) ++ Tm.texts (kids.take k) ++ [44, 32]) Z → Wrote B b X Z → Calls Tryd.prog 59 #[.pointer (some ⟨b, 0, none⟩), kids[k].val A' cap'] Z (Written B b (l ++ (nm.data.toList ++ [40]) ++ Tm.texts (kids.take k) ++ [44, 32]) kids[k] Z)) := Lib.hid fun Z hZ hWZ =>
            IH.out kids[k] A' cap' _ Z (by omega) (by omega) hkc (RepP.mono (fun _ h => h) (fun p (hp : p.block < B) => by rw [hWZ.below.cell hp, hWX.below.cell hp, HWR.out.below.cell hp]) _ _ _ c5) (HW.out.keep (fun b' h => (hWX.trans hWZ).below.block b' h)) hZ (by rw [if_neg hk0] at hln2; simp only [List.length_append, List.length_cons, List.length_nil] at *; omega)
          simp only [Tm.val] at CON
          have HT := Lib.hid (show l ++ (nm.data.toList ++ [40]) ++ Tm.texts (kids.take k) ++ [44, 32] ++ kids[k].text = l ++ (nm.data.toList ++ [40]) ++ Tm.texts (kids.take (k + 1)) by
            rw [htt, if_neg hk0]; simp only [List.append_assoc])
          have HX := Lib.hid hX; clear hX hIX
          have HBX := Lib.hid hbX; clear hbX
          have HWX := Lib.hid hWX; clear hWX c5 htt hl htl hln2 hnl hkc hk0
          go_wp2_with fail
          rw [← HX.out]
          refine WS.out.mono ?_; clear WS c0 c1 c2 c3
          rintro e w2 ⟨rfl, hI2, hW2⟩
          have hbx2 := hW2.box HBX.out hneX
          obtain ⟨c0, c1, c2, c3, -⟩ := box_at hbx2
          have CON := Lib.hid (CON.out w2 hI2 hW2)
          have HW2 := Lib.hid (HWX.out.trans hW2); clear hW2 hI2 hbx2
          go_wp2_with fail
          refine CON.out.mono ?_; clear CON c0 c1 c2 c3
          rintro e w3 ⟨rfl, hI3, hW3⟩
          have HI3 := Lib.hid hI3; clear hI3
          have HW3 := Lib.hid (HW2.out.trans hW3); clear hW3
          go_wp2_with fail
          go_roundw
          case rel => exact ⟨k + 1, by omega, by go_num, by rw [← HT.out]; exact HI3.out, HW3.out⟩
          case measure => simp [intOf]; omega
      · obtain rfl : k = kids.length := by omega
        have hi := HI.out
        rw [List.take_length] at hi
        have hnl := HNL.out
        have WB := writeByte_any B b _ 41 wr hi (by simp only [List.length_append, List.length_cons, List.length_nil]; omega) (by omega)
        rw [show ((41 : UInt8).toNat : Int) = 41 from rfl] at WB
        have WB := Lib.hid WB
        clear hi hnl
        go_wp2_with fail
        refine WB.out.mono ?_
        rintro e w2 ⟨rfl, hI2, hW2⟩
        have HI2 := Lib.hid hI2; clear hI2
        have HW2 := Lib.hid (HWR.out.trans hW2); clear hW2
        go_wp2_with fail
        go_end0
        refine ⟨rfl, ?_, HW2.out⟩
        rw [HTX.out]
        have := HI2.out
        simp only [List.append_assoc, List.cons_append, List.nil_append] at this
        exact this

mutual
/-- how long a text can be -/
theorem text_len : ∀ t : Tm, t.check = 0 → t.text.length + 2 ≤ 40 * t.size
  | .mk k nm s l, h => by
    have hw : ∀ s : Int, 0 ≤ s → s ≤ 5 → (sortWord s).length ≤ 5 := fun s h0 h5 => six (P := fun s => (sortWord s).length ≤ 5) (by decide +kernel) (by decide +kernel) (by decide +kernel) (by decide +kernel) (by decide +kernel) (by decide +kernel) h0 h5
    rw [Tm.size, Tm.text]
    by_cases h1 : k = 1
    · obtain ⟨a, b, c, d⟩ := check_leaf (.inl h1) h
      have := (nameL_parts d).1
      have := hw s a b
      rw [if_pos h1]
      split <;> simp only [List.length_append, List.length_cons, List.length_nil] <;> omega
    · rw [if_neg h1]
      by_cases h2 : k = 2
      · obtain ⟨a, b, c, d⟩ := check_leaf (.inr h2) h
        have := (nameL_parts d).1
        have := hw s a b
        rw [if_pos h2]
        simp only [List.length_append, List.length_cons]; omega
      · obtain ⟨a, b, c, d⟩ := check_app3 (by omega) h
        have := (nameL_parts c).1
        have := texts_len l d
        rw [if_neg h2]
        simp only [List.length_append, List.length_cons, List.length_nil]; omega
theorem texts_len : ∀ l : List Tm, Tm.checks l = 0 → (Tm.texts l).length ≤ 40 * Tm.sizes l
  | [], _ => by simp [Tm.texts]
  | t :: r, h => by
    obtain ⟨h1, h2⟩ := checks_cons h
    have := text_len t h1
    have := more_len r h2
    rw [Tm.texts, Tm.sizes, List.length_append]; omega
theorem more_len : ∀ l : List Tm, Tm.checks l = 0 → (Tm.more l).length ≤ 40 * Tm.sizes l
  | [], _ => by simp [Tm.more]
  | t :: r, h => by
    obtain ⟨h1, h2⟩ := checks_cons h
    have := text_len t h1
    have := more_len r h2
    rw [Tm.more, Tm.sizes]; simp only [List.length_append, List.length_cons]; omega
end
theorem valid_check {t : Tm} (h : t.valid = 0) : t.check = 0 ∧ t.size ≤ 400 ∧ t.depth ≤ 40 := by
  unfold Tm.valid at h
  split at h
  · rename_i h1; exact absurd h h1
  · rename_i h1
    split at h
    · omega
    · exact ⟨by omega, by omega, by omega⟩
/-- the text of a term, or its error -/
def Tm.formatE (t : Tm) : List UInt8 × Int := if t.valid = 0 then (t.text, 0) else ([], t.valid)

theorem IsB.fresh {B : Nat} {w : World} (hB : B ≤ w.heap.size) : IsB B w.heap.size [] (w.alloc (.cells #[.pointer none, .slice none 0 0] 67)) :=
  Lib.IsBuilderF.of (.inl ⟨hB, _, heap_alloc_new _ _, World.ownsRow_nil _ _ _ _, by simp [Value.ownBlock]⟩)

set_option maxHeartbeats 2000000 in
set_option maxRecDepth 100000 in
theorem format_any (t : Tm) (A : Option Addr) (cap : Nat) (w : World) (hn : t.size ≤ 1000000) (hrep : RepT w w.heap.size t A cap) (hw : Words w.heap.size w) :
    Calls Tryd.prog 40 #[t.val A cap] w fun e w' => e = .returned (.tuple #[.string ⟨t.formatE.1.toArray⟩, .int .i64 t.formatE.2]) ∧ Below w.heap.size w w' := by
  obtain ⟨V, hV⟩ : ∃ V, V = w.alloc (.cells #[.int .i64 t.kind, .string t.name, .int .i64 t.sort, .slice A t.kids.length cap] 24) := ⟨_, rfl⟩
  have hbV : Below w.heap.size w V := by rw [hV]; exact below1 (Nat.le_refl _) _
  have hbx : V.heap[w.heap.size]? = some (.cells #[.int .i64 t.kind, .string t.name, .int .i64 t.sort, .slice A t.kids.length cap] 24 (0, 0)) := by rw [hV]; exact heap_alloc_new _ _
  have hsz : V.heap.size = w.heap.size + 1 := by rw [hV]; simp
  have VA := Lib.hid (valid_any t A cap V hn (hrep.go hbV (by omega)))
  obtain ⟨vl, hvl⟩ : ∃ vl, vl = t.valid := ⟨_, rfl⟩
  rw [← hvl] at VA
  obtain ⟨r0, r1, r2, r3, -⟩ := box_at hbx
  have HV := Lib.hid hV; clear hV
  have HBV := Lib.hid hbV; clear hbV
  have HBX := Lib.hid hbx; clear hbx
  have HVL := Lib.hid hvl; clear hvl
  simp only [Tm.val] at VA ⊢
  go_enter Tryd.func40, Tryd.ntmps40
  go_wp2_with fail
  rw [← HV.out]
  refine VA.out.mono ?_; clear VA r0 r1 r2 r3
  rintro e w1 ⟨rfl, hl1⟩
  have hB1 : Hid (Below w.heap.size w w1) := HBV.out.trans (hl1.below.mono (by omega))
  have hs1 := hl1.size
  have hbx1 := (hl1.below.block _ (by omega)).trans HBX.out
  obtain ⟨r0, r1, r2, r3, -⟩ := box_at hbx1
  have HBX1 := Lib.hid hbx1; clear hbx1 hl1 HV HBV HBX
  by_cases h0 : vl = 0
  · subst h0
    have hf := valid_check HVL.out.symm
    have htl := text_len t hf.1
    have HFE : Hid (t.formatE = (t.text, 0)) := by unfold Tm.formatE; exact if_pos HVL.out.symm
    obtain ⟨X, hX⟩ : ∃ X, X = w1.alloc (.cells #[.pointer none, .slice none 0 0] 67) := ⟨_, rfl⟩
    have hIX : IsB w.heap.size w1.heap.size [] X := by rw [hX]; exact IsB.fresh (by omega)
    have hbX : Below w1.heap.size w1 X := by rw [hX]; exact below1 (Nat.le_refl _) _
    have hbxX := (hbX.block _ (by omega)).trans HBX1.out
    have hBX := hB1.out.trans (hbX.mono (by omega))
    have WR := write_any w.heap.size w1.heap.size 1000000 t A cap [] X (by omega) (Nat.le_refl _) hf.1 (hrep.go hBX (Nat.le_refl _)) (hw.keep (fun b h => hBX.block b h)) hIX (by simp only [List.length_nil]; omega)
    rw [Tm.val] at WR
    have WR := Lib.hid WR
    rw [hX] at hbxX
    obtain ⟨x0, x1, x2, x3, -⟩ := box_at hbxX
    have HBX2 := Lib.hid hBX; clear hBX hIX hbX hf htl
    have HX := Lib.hid hX; clear hX hbxX
    go_wp2_with fail
    rw [← HX.out]
    refine WR.out.mono ?_; clear WR x0 x1 x2 x3 r0 r1 r2 r3
    rintro e w2 ⟨rfl, hI2, hW2⟩
    have ST := Tryd.Builder_String_any_k w.heap.size w1.heap.size t.text w2 (by simpa using hI2) (by have := hW2.below.size; have := HBX2.out.size; omega)
    have ST := Lib.hid ST
    have HW2 := Lib.hid (HBX2.out.trans hW2.below); clear hI2 hW2
    go_wp2_with fail
    refine ST.out.mono ?_
    rintro e w3 ⟨rfl, -, hB3, -⟩
    have HB3 := Lib.hid (HW2.out.trans hB3); clear hB3
    go_wp2_with fail
    go_ret2
    rw [HFE.out]
    exact ⟨rfl, HB3.out⟩
  · have q : (vl == 0) = false := by rw [beq_eq_false_iff_ne]; exact h0
    have q' : (vl != 0) = true := by simp [h0]
    have HFE : Hid (t.formatE = ([], vl)) := by unfold Tm.formatE; rw [← HVL.out]; exact if_neg h0
    clear h0
    go_wp2_with fail
    go_ret2
    rw [HFE.out]
    exact ⟨rfl, hB1.out⟩
end Go.Proofs.YtbgkabgbgbebaaaDoor
