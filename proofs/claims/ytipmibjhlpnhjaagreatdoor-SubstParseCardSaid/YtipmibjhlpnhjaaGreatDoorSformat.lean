/- subst.Format. -/
import Derived.Test.YtipmibjhlpnhjaaGreatDoorSfew
import Derived.Test.YtipmibjhlpnhjaaGreatDoorGf
import Derived.Test.YtipmibjhlpnhjaaGreatDoorJn
namespace Go.Proofs.YtipmibjhlpnhjaaGreatDoor
open Go.RowKit Go.Sort

def lineB (b : Bd) : List UInt8 := b.1.text ++ [32, 61, 32] ++ b.2.text
def formatB (l : List Bd) : List UInt8 := [123] ++ Lib.join (l.map lineB) [44, 32] ++ [125]
def FormatE (s : List Bd) : List UInt8 × Int := if validS s ≠ 0 then ([], validS s) else (formatB s, 0)
theorem lineB_len {b : Bd} (h1 : b.1.valid = 0) (h2 : b.2.valid = 0) : b.1.text.length ≤ 16000 ∧ b.2.text.length ≤ 16000 ∧ (lineB b).length ≤ 32003 := by
  have k1 := text_len b.1 (valid_check h1).1
  have k2 := text_len b.2 (valid_check h2).1
  have k3 := valid_size h1
  have k4 := valid_size h2
  unfold lineB
  simp only [List.length_append, List.length_cons, List.length_nil]
  omega
theorem stringInfo : (Tryz.prog.info? 9).map (fun i => (i.zero, i.size, i.bytes)) = some (some (.string ⟨#[]⟩), 1, 16) := by kernel_rfl
theorem own_below {w w' : World} {base : Nat} {e : TypeId} {size n : Nat} {v : Value} {xs : List Value} (h : w.ownsRow base e size v n xs) (hb : Below w.heap.size w w') : w'.ownsRow base e size v n xs := by
  refine ⟨h.1, ?_⟩
  rcases h.2 with hn | ⟨g, cap, cur, rfl, hbb, hg, r⟩
  · exact .inl hn
  · have hlt : g < w.heap.size := (Array.getElem?_eq_some_iff.1 hg).1
    exact .inr ⟨g, cap, cur, rfl, hbb, by rw [hb.block g hlt]; exact hg, r⟩

set_option maxHeartbeats 1200000 in
set_option maxRecDepth 100000 in
theorem sformat_any (s : List Bd) (S0 : Option Addr) (sc : Nat) (w : World) (hsz : SizeB s) (hrep : RepB w (fun b => b < w.heap.size) s S0 sc) (hw : Words w.heap.size w) :
    Calls Tryz.prog 31 #[.slice S0 s.length sc] w fun e w' => e = .returned (.tuple #[.string ⟨(FormatE s).1.toArray⟩, .int .i64 (FormatE s).2]) ∧ Below w.heap.size w w' := by
  have mixed : Tryz.prog.follows .mixedOrders = true := by kernel_rfl
  have VS := svalid_any s S0 sc w hsz hrep
  have h1 := hrep.1
  have h2 := hrep.2.1
  unfold maxLen at h2
  obtain ⟨r, hr⟩ : ∃ r, r = FormatE s := ⟨_, rfl⟩
  rw [← hr]
  unfold FormatE at hr
  obtain ⟨vs, hvs⟩ : ∃ v, v = validS s := ⟨_, rfl⟩
  rw [← hvs] at VS hr
  have VS := Lib.hid VS
  have HR := Lib.hid hr; clear hr
  have HVS := Lib.hid hvs; clear hvs
  have HREP := Lib.hid hrep; clear hrep
  have HSZ := Lib.hid hsz; clear hsz
  have HW := Lib.hid hw; clear hw
  go_enter Tryz.func31, Tryz.ntmps31
  go_wp2_with fail
  refine VS.out.mono ?_; clear VS
  rintro e w1 ⟨rfl, hl1⟩
  rcases eq_facts vs 0 with ⟨h0, e0, n0⟩ | ⟨h0, e0, n0⟩
  rotate_left
  · have hr := HR.out.trans (if_pos h0)
    subst hr
    clear HR h0
    go_wp2_with fail
    go_ret2
    exact ⟨rfl, hl1.below⟩
  subst h0
  have hr := HR.out.trans (if_neg (by simp))
  subst hr
  clear HR
  have hzs := validS_zero HVS.out.symm
  have hls := hzs.1
  have HZ := Lib.hid hzs; clear hzs
  have HL1 := Lib.hid hl1.below; clear hl1
  go_wp2_with fail
  go_loopw [5, 19] (fun v i wr => ∃ (k c : Nat) (A : Option Addr) (xs : List ByteArray), k ≤ s.length ∧ i = .int .i64 k ∧ v = .slice A xs.length c ∧ Hid (xs.length = k) ∧ Hid (wr.ownsRow w.heap.size 9 1 (.slice A xs.length c) xs.length (xs.map Value.string)) ∧
      Hid (xs.map (·.data.toList) = (s.take k).map lineB) ∧ Hid (Below w.heap.size w wr)) (fun _ i _ => s.length - (intOf i).toNat)
  case atStart => exact ⟨0, 0, none, [], Nat.zero_le _, rfl, rfl, rfl, World.ownsRow_nil _ _ _ _, rfl, HL1.out⟩
  case round =>
    obtain ⟨k, c0, A0', xs, hk, rfl, rfl, HM, HROW, HXS, HBW⟩ := hrel
    have i1 : (0 : Int) ≤ (k : Int) := Int.natCast_nonneg _
    by_cases hlt : k < s.length
    · have i2 : (k : Int) < (s.length : Int) := by omega
      rcases HREP.out.2.2 with h | ⟨kb, off, hS0, hbB, hl⟩
      · rw [h] at hlt; simp at hlt
      subst hS0
      have hws := HBW.out.size
      have hlr : RepLP wr (fun b => b < w.heap.size) (flat s) kb off := RepLP.mono (fun _ h => h) (fun p hp => HBW.out.cell hp) _ _ _ hbB hl
      obtain ⟨A, c, A', c', h8⟩ := hlr.get8 k hlt
      obtain ⟨hx, ht⟩ := HSZ.out s[k] (List.getElem_mem hlt)
      have hbE := bindE_zero (HZ.out.2.1 s[k] (List.getElem_mem hlt))
      have hll := lineB_len hbE.1 hbE.2.2.2.1
      obtain ⟨V, hV⟩ : ∃ V, V = wr.alloc (.cells #[.int .i64 s[k].1.kind, .string s[k].1.name, .int .i64 s[k].1.sort, .slice A s[k].1.kids.length c, .int .i64 s[k].2.kind, .string s[k].2.name, .int .i64 s[k].2.sort, .slice A' s[k].2.kids.length c'] 53) := ⟨_, rfl⟩
      have hB : Bx wr s[k] A c A' c' V := by rw [hV]; exact Bx.new wr s[k] A c A' c'
      have lift : ∀ (y : Tm) B e Z, Below wr.heap.size wr Z → RepP wr (fun b => b < w.heap.size) y B e → RepT Z Z.heap.size y B e := fun y B e Z hZ h =>
        RepP.mono (fun b (g : b < w.heap.size) => by have := hZ.size; omega) (fun p (hp : p.block < w.heap.size) => hZ.cell (by omega)) _ _ _ h
      have wd : ∀ Z, Below wr.heap.size wr Z → Words Z.heap.size Z := fun Z hZ => HW.out.below (HBW.out.trans (hZ.mono hws))
      obtain ⟨x1, hx1⟩ : ∃ x : ByteArray, x = ⟨s[k].1.text.toArray⟩ := ⟨_, rfl⟩
      obtain ⟨x2, hx2⟩ : ∃ x : ByteArray, x = ⟨s[k].2.text.toArray⟩ := ⟨_, rfl⟩
      have F1 : Hid (∀ Z, Below wr.heap.size wr Z → Calls Tryz.prog 66 #[s[k].1.val A c] Z fun e w' => e = .returned (.tuple #[.string x1, .int .i64 0]) ∧ Below Z.heap.size Z w') := Lib.hid fun Z hZ => by
        have := format_any s[k].1 A c Z hx (lift _ _ _ Z hZ h8.r1) (wd Z hZ)
        rw [show s[k].1.formatE = (s[k].1.text, 0) by unfold Tm.formatE; exact if_pos hbE.1] at this
        rw [hx1]; exact this
      have F2 : Hid (∀ Z, Below wr.heap.size wr Z → Calls Tryz.prog 66 #[s[k].2.val A' c'] Z fun e w' => e = .returned (.tuple #[.string x2, .int .i64 0]) ∧ Below Z.heap.size Z w') := Lib.hid fun Z hZ => by
        have := format_any s[k].2 A' c' Z ht (lift _ _ _ Z hZ h8.r2) (wd Z hZ)
        rw [show s[k].2.formatE = (s[k].2.text, 0) by unfold Tm.formatE; exact if_pos hbE.2.2.2.1] at this
        rw [hx2]; exact this
      have k1 : x1.size ≤ 16000 := by rw [hx1]; simpa [ByteArray.size] using hll.1
      have k2 : x2.size ≤ 16000 := by rw [hx2]; simpa [ByteArray.size] using hll.2.1
      have hln : x1.data.toList ++ [32, 61, 32] ++ x2.data.toList = lineB s[k] := by rw [hx1, hx2]; rfl
      have HLN := Lib.hid hln; clear hln hx1 hx2 hll hbE
      obtain ⟨a0, a1, a2, a3, b0, b1, b2, b3, -, -⟩ := h8
      have HV := Lib.hid hV; clear hV
      have HB := Lib.hid hB; clear hB hlr hl wd lift
      have CON := Lib.hid (F1.out V HB.out.lay.below); clear F1
      simp only [Tm.val] at CON F2
      go_wp2_with fail
      rw [← HV.out]
      obtain ⟨d0, d1, d2, d3, d4, d5, d6, d7⟩ := eight_at HB.out.box
      go_wp2_with fail
      refine CON.out.mono ?_; clear CON HV
      rintro e w3 ⟨rfl, hb3⟩
      clear d0 d1 d2 d3 d4 d5 d6 d7 a0 a1 a2 a3 b0 b1 b2 b3
      have hlV := HB.out.lt
      obtain ⟨d0, d1, d2, d3, d4, d5, d6, d7⟩ := eight_at ((hb3.block _ hlV).trans HB.out.box)
      have hbr3 : Below wr.heap.size wr w3 := below_then HB.out.lay.below hb3 HB.out.lay.size
      have CON := Lib.hid (F2.out w3 hbr3); clear F2
      go_wp2_with fail
      refine CON.out.mono ?_; clear CON
      rintro e w4 ⟨rfl, hb4⟩
      clear d0 d1 d2 d3 d4 d5 d6 d7
      have hbr4 : Below wr.heap.size wr w4 := below_then hbr3 hb4 hbr3.size
      have q1 : ¬ 9223372036854775807 < x1.size + 3 := by omega
      have q2 : ¬ 9223372036854775807 < x1.size + 3 + x2.size := by omega
      have q3 : x1.size + 3 ≤ 100000 := by omega
      obtain ⟨y, hy⟩ : ∃ y, y = x1 ++ ⟨#[32, 61, 32]⟩ ++ x2 := ⟨_, rfl⟩
      have hyl : y.data.toList = lineB s[k] := by rw [hy, ← HLN.out]; simp
      obtain ⟨W6, hW6⟩ : ∃ W6, W6 = w4.alloc (.cells #[.string y] 9) := ⟨_, rfl⟩
      have hb6 : Below w4.heap.size w4 W6 := by rw [hW6]; exact below1 (Nat.le_refl _) _
      have hs6 : W6.heap.size = w4.heap.size + 1 := by rw [hW6]; simp
      have hx6 : W6.heap[w4.heap.size]? = some (.cells #[.string y] 9 (0, 0)) := by rw [hW6]; exact heap_alloc_new _ _
      have hbr6 : Below wr.heap.size wr W6 := below_then hbr4 hb6 hbr4.size
      have hbs := hbr6.size
      obtain ⟨i0, hi0, hz0, hz1, hz2⟩ := info_parts stringInfo
      have hml := HM.out
      obtain ⟨g, cap2, w7, hap, hrow7, hgr, hat, hlt7⟩ := run_append_lies (P := Tryz.prog) W6 86 0 w.heap.size 9 i0 _ 1 16 Tryz.underlying86 hi0 hz0 hz1 hz2 rfl (by omega) (.slice A0' xs.length c0) xs.length (xs.map Value.string) (own_below HROW.out hbr6)
        ⟨w4.heap.size, 0, none⟩ 1 1 [.string y] rfl (fun j u hu => World.news_of_block hx6 j u (by simpa using hu)) (by simp [Value.oneCell']) (by omega) (by unfold maxLen; omega) (by omega) (by omega) W6.heap.size rfl
      have hap : ∀ ty, (Builtin.append_ #[86, 86] ty #[.slice A0' xs.length c0, .slice (some ⟨w4.heap.size, 0, none⟩) 1 1]).run Tryz.prog W6 = .ok (.slice (some ⟨g, 0, none⟩) (xs.length + 1) cap2) w7 := fun _ => hap
      have hbw7 : Below w.heap.size w w7 := (HBW.out.trans (hbr6.mono hws)).grown hgr (by omega) (fun j e => by have := (HROW.out.lt _ e).1; omega)
      have hrow8 : w7.ownsRow w.heap.size 9 1 (.slice (some ⟨g, 0, none⟩) (xs ++ [y]).length cap2) (xs ++ [y]).length ((xs ++ [y]).map Value.string) := by
        rw [List.length_append, List.map_append]; exact hrow7
      have hxs8 : (xs ++ [y]).map (·.data.toList) = (s.take (k + 1)).map lineB := by
        rw [List.map_append, HXS.out, List.take_succ_eq_append_getElem hlt, List.map_append, List.map_singleton, hyl]; rfl
      have HROW8 := Lib.hid hrow8; clear hrow8 hrow7 hgr hat hlt7 hx6 hb6 hbr6
      have HXS8 := Lib.hid hxs8; clear hxs8 hyl
      have HBW7 := Lib.hid hbw7; clear hbw7
      have HML := Lib.hid hml; clear hml hs6
      rw [hW6, hy] at hap
      clear hW6
      go_wp2_with (at_builtin; refine wpList_run_append rfl _ _ rfl rfl rfl hap ?_)
      go_roundw
      case rel => exact ⟨k + 1, cap2, some ⟨g, 0, none⟩, xs ++ [y], by omega, by go_num, by rw [List.length_append]; rfl, by show (xs ++ [y]).length = _; rw [List.length_append, HML.out]; rfl, HROW8.out, HXS8.out, HBW7.out⟩
      case measure => simp [intOf]; omega
    · obtain rfl : k = s.length := by omega
      have hxs : xs.map (·.data.toList) = s.map lineB := by have := HXS.out; rw [List.take_length] at this; exact this
      have hml := HM.out
      have HBW2 := HBW
      by_cases hn0 : xs.length = 0
      · have hx0 : xs = [] := List.eq_nil_of_length_eq_zero hn0
        have hs0 : s = [] := List.eq_nil_of_length_eq_zero (by omega)
        subst hx0
        have hfb : formatB s = [123, 125] := by rw [hs0]; rfl
        have HFB := Lib.hid hfb; clear hfb hs0 hxs hml hn0
        have JN := Lib.hid (Tryz.strings_Join_none A0' c0 ⟨#[44, 32]⟩ wr)
        go_wp2_with fail
        refine JN.out.mono ?_; clear JN
        rintro e w2 ⟨rfl, rfl⟩
        go_wp2_with fail
        go_ret2
        rw [HFB.out]
        exact ⟨rfl, HBW.out⟩
      · obtain ⟨g, hg0⟩ : ∃ g, A0' = some ⟨g, 0, none⟩ := by
          rcases HROW.out.2 with ⟨_, h0⟩ | ⟨g, _, _, hv, _⟩
          · exact absurd h0 hn0
          · injection hv with h1 _ _; exact ⟨g, h1⟩
        subst hg0
        have hown := HROW.out
        have hgl := (hown.lt g rfl).2
        have hcap : xs.length ≤ c0 := by
          rcases hown.2 with ⟨_, h0⟩ | ⟨g', cap, cur, hv, _, _, hnc, _⟩
          · exact absurd h0 hn0
          · injection hv with _ _ h3; rw [h3]; exact hnc
        have hcells : ∀ (j : Nat) x, xs[j]? = some x → wr.cell? ⟨g, 0 + j, none⟩ = some (.string x) := fun j x hj => by
          have := hown.cells (g := g) rfl j (.string x) (by rw [List.getElem?_map, hj]; rfl)
          rw [Nat.zero_add]
          unfold Addr.add at this
          split at this <;> simp_all
        have hjl : (Lib.join (xs.map (·.data.toList)) [44, 32]).length ≤ 10000000 := by
          rw [hxs]
          have hle : ∀ x ∈ s.map lineB, x.length ≤ 32003 := fun x hx => by
            obtain ⟨b, hb, rfl⟩ := List.mem_map.1 hx
            have hbE := bindE_zero (HZ.out.2.1 b hb)
            exact (lineB_len hbE.1 hbE.2.2.2.1).2.2
          have hlen : (s.map lineB).length ≤ 200 := by simpa using hls
          have hjb : ∀ l : List (List UInt8), (∀ x ∈ l, x.length ≤ 32003) → Lib.lens l ≤ 32003 * l.length := by
            intro l
            induction l with
            | nil => intro _; simp [Lib.lens]
            | cons x r ih =>
              intro h
              have k1 := h x (List.mem_cons_self ..)
              have k2 := ih (fun y hy => h y (List.mem_cons_of_mem _ hy))
              have k3 : Lib.lens (x :: r) = x.length + Lib.lens r := by simp [Lib.lens]
              rw [k3, List.length_cons]
              omega
          have k3 := hjb _ hle
          generalize s.map lineB = L at *
          cases L with
          | nil => rw [Lib.join_nil]; simp
          | cons x r =>
            rw [Lib.join_length]
            simp only [List.length_cons, List.length_nil] at *
            omega
        have JN := Tryz.strings_Join g 0 c0 xs ⟨#[44, 32]⟩ wr hcells hgl (by omega) hcap (by exact Nat.le_trans hjl (by omega))
        obtain ⟨jn, hjn⟩ : ∃ jn : ByteArray, jn = ⟨(Lib.join (xs.map (·.data.toList)) [44, 32]).toArray⟩ := ⟨_, rfl⟩
        have hjs : jn.size ≤ 10000000 := by rw [hjn]; simpa [ByteArray.size] using hjl
        have hjd : jn.data.toList = Lib.join (s.map lineB) [44, 32] := by rw [hjn, hxs]
        have JN := Lib.hid (show Calls Tryz.prog 67 #[.slice (some ⟨g, 0, none⟩) xs.length c0, .string ⟨#[44, 32]⟩] wr fun e w' => e = .returned (.string jn) ∧ Below wr.heap.size wr w' by rw [hjn]; exact JN)
        have HJD := Lib.hid hjd; clear hjd hjn hjl hcells hxs hown hml
        have q1 : ¬ 9223372036854775807 < 1 + jn.size := by omega
        have q2 : ¬ 9223372036854775807 < 1 + jn.size + 1 := by omega
        go_wp2_with fail
        refine JN.out.mono ?_; clear JN
        rintro e w2 ⟨rfl, hb2⟩
        have HB2 := Lib.hid (HBW.out.trans (hb2.mono HBW.out.size)); clear hb2
        go_wp2_with fail
        go_ret2
        refine ⟨?_, HB2.out⟩
        have : (⟨#[123]⟩ ++ jn ++ ⟨#[125]⟩ : ByteArray) = ⟨(formatB s).toArray⟩ := by
          rw [bytes_of_list (⟨#[123]⟩ ++ jn ++ ⟨#[125]⟩), list_append, list_append, HJD.out]
          rfl
        simp only [← this]
        rfl
end Go.Proofs.YtipmibjhlpnhjaaGreatDoor
