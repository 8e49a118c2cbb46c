/- Urfresh, Urvars (joined by shake.py). -/
import Derived.Test.YtpjmdilpldaapaaGreatDoorJ5
import Derived.Test.YtpjmdilpldaapaaGreatDoorJ12
import Derived.Test.YtpjmdilpldaapaaGreatDoorJ14
import Derived.Test.YtpjmdilpldaapaaGreatDoorJ21
set_option maxRecDepth 100000
namespace Go.Proofs.YtpjmdilpldaapaaGreatDoor
open Go.RowKit Go.Sort
theorem qn5 {L : List Tm} {g : ByteArray} {k : Nat} (h : k < L.length) : decide (g ∈ (L.take (k + 1)).map Tm.name) = (decide (g ∈ (L.take k).map Tm.name) || decide (L[k].name = g)) := by
 rw [List.take_succ_eq_append_getElem h, List.map_append, Bool.eq_iff_iff];simp only [List.mem_append, List.map_cons, List.map_nil, List.mem_singleton, Bool.or_eq_true, decide_eq_true_eq];constructor
 ·rintro (h | h)
  ·exact .inl h
  ·exact .inr h.symm
 ·rintro (h | h)
  ·exact .inl h
  ·exact .inr h.symm
theorem name_dec (a b : ByteArray) : decide (a = b) = (a.toList == b.toList) := by
 rw [Bool.eq_iff_iff, decide_eq_true_iff, beq_iff_eq];exact ⟨fun h => by rw [h], fun h => by rw [ByteArray.toList_eq, ByteArray.toList_eq] at h; exact ByteArray.ext (Array.toList_inj.1 h)⟩
set_option maxHeartbeats 4000000 in
theorem qns (L : List Tm) (A : Option Addr) (c n : Nat) (w : World) (hn : n + L.length < 999999) (hrep : RepS w (fun b => b < w.heap.size) L A c) :
  Calls Tryz.prog 58 #[.slice A L.length c, .int .i64 n] w fun e w' => e = .returned (.tuple #[.string (qaw (qay (L.map Tm.name) n)), .int .i64 ((qay (L.map Tm.name) n : Nat) + 1)]) ∧ Below w.heap.size w w' := by
 obtain ⟨hr1, hr2, hr3⟩ := hrep;obtain ⟨F, hF⟩ : ∃ F, F = qay (L.map Tm.name) n := ⟨_, rfl⟩;rw [← hF];obtain ⟨hf1, hf2, hf3, hf4⟩ := qbl (L.map Tm.name) n;rw [← hF] at hf1 hf2 hf3 hf4;rw [List.length_map] at hf2;have HF1 : Hid (qaw F ∉ L.map Tm.name ∧ ∀ i, n ≤ i → i < F → qaw i ∈ L.map Tm.name) := ⟨hf3, hf4⟩;clear hf3 hf4 hF;go_enter Tryz.func58, Tryz.ntmps58
 go_wp2_with fail
 go_loopw [1] (fun iv wr => ∃ m : Nat, iv = .int .i64 m ∧ n ≤ m ∧ m ≤ F ∧ Hid (Below w.heap.size w wr)) (fun iv _ => F + 1 - (intOf iv).toNat)
 case atStart => exact ⟨n, rfl, Nat.le_refl _, hf1, Below.refl _ _⟩
 case round =>
  obtain ⟨m, rfl, hn1, hn2, HB⟩ := hrel;have DG := qlz m (by omega) wr;obtain ⟨nm, hnm⟩ : ∃ nm : ByteArray, nm = ⟨(Lib.decDigits m).toArray⟩ := ⟨_, rfl⟩;have hgm : qaw m = (⟨#[103]⟩ : ByteArray) ++ nm := by rw [hnm]; rfl
  have hsz : nm.size ≤ 6 := by rw [hnm]; exact qjx (by omega)
  rw [← hnm] at DG;obtain ⟨g, hg⟩ : ∃ g, g = qaw m := ⟨_, rfl⟩;rw [← hg] at hgm;have HG := Lib.hid hg;have HGM := Lib.hid hgm;have DG := Lib.hid DG;have m0 : (0 : Int) ≤ (m : Int) := by omega
  have mx : (m : Int) < 1000000 := by omega
  clear hnm hg hgm;go_wp2_with fail
  refine DG.out.mono ?_; clear DG;rintro e w2 ⟨rfl, hl2⟩;have HB2 := Lib.hid (qad HB.out hl2 HB.out.size);clear HB hl2;go_wp2_with fail
  rw [← HGM.out];clear HGM hsz;generalize wr = wo at *;go_loopw [7, 8] (fun uv kv wr => ∃ (k : Nat) (q : Bool), k ≤ L.length ∧ kv = .int .i64 k ∧ uv = .bool q ∧ Hid (q = decide (g ∈ (L.take k).map Tm.name)) ∧ Hid (Below w.heap.size w wr)) (fun _ kv _ => L.length - (intOf kv).toNat)
  case atStart => exact ⟨0, false, Nat.zero_le _, rfl, rfl, (by show _ = _; simp), HB2.out⟩
  case round =>
   clear HB2;obtain ⟨k, q, hk, rfl, rfl, HQ, HB3⟩ := hrel;have k0 : (0 : Int) ≤ (k : Int) := by omega
   by_cases hlt : k < L.length
   ·have k1 : (k : Int) < (L.length : Int) := by omega
    rcases hr3 with h | ⟨b, off, hA, hbB, hl⟩
    ·rw [h] at hlt; simp at hlt
    subst hA;obtain ⟨Ak, ck, h0, h1, h2, h3, -⟩ := qal.get hl k hlt;have h1' := (HB3.out.cell (p := ⟨b, off + k * 4 + 1, none⟩) hbB).trans h1;have hs := qn5 (L := L) (g := g) hlt;rw [← HQ.out, name_dec] at hs;generalize L[k].name = nk at *;have HS := Lib.hid hs;clear h0 h1 h2 h3 hs HQ
    cases q with
    | true =>
     have HS2 := Lib.hid (HS.out.trans (Bool.true_or _));clear HS;go_wp2_with fail
     go_roundw
     case rel => exact ⟨k + 1, true, by omega, by go_num, rfl, HS2.out.symm, HB3.out⟩
     case measure => simp [intOf]; omega
    | false =>
     have HS2 := Lib.hid (HS.out.trans (Bool.false_or _));clear HS;go_wp2_with fail
     go_roundw
     case rel => exact ⟨k + 1, _, by omega, by go_num, rfl, HS2.out.symm, HB3.out⟩
     case measure => simp [intOf]; omega
   ·obtain rfl : k = L.length := by omega
    have hq := HQ.out;rw [List.take_length] at hq
    cases q with
    | true =>
     have hin : qaw m ∈ L.map Tm.name := by rw [← HG.out]; exact of_decide_eq_true hq.symm
     have hlt3 : m < F := by
      rcases Nat.lt_or_eq_of_le hn2 with h | h
      ·exact h
      ·rw [h] at hin; exact absurd hin HF1.out.1
     clear hq hin HQ;go_wp2_with fail
     go_roundw
     case rel => exact ⟨m + 1, by go_num, by omega, by omega, HB3.out⟩
     case measure => simp [intOf]; omega
    | false =>
     have hnot : qaw m ∉ L.map Tm.name := by rw [← HG.out]; exact of_decide_eq_false hq.symm
     obtain rfl : m = F := by
      rcases Nat.lt_or_eq_of_le hn2 with h | h
      ·exact absurd (HF1.out.2 m hn1 h) hnot
      ·exact h
     clear hq hnot HQ;go_wp2_with fail
     go_ret2
     exact ⟨by rw [HG.out]; rfl, HB3.out⟩
theorem qnq {w : World} {base base2 B : Nat} {v : Value} {its its2 : List It} (hrow : RowT w base (fun b => b < B) v its) (hB : B ≤ base) (hbase : base ≤ w.heap.size) {A : Option Addr} {c m : Nat} (hrow2 : RowT w base2 (fun b => b < B) (.slice A m c) its2) (hlen : its.length + m ≤ 100000000) :
  ∃ A' c' w', (∀ ty, (Builtin.append_ #[22, 22] ty #[v, .slice A m c]).run Tryz.prog w = .ok (.slice A' (its.length + m) c') w') ∧
   RowT w' base (fun b => b < B) (.slice A' (its.length + m) c') (its ++ its2) ∧ (∀ W0 B0, Below B0 W0 w → B0 ≤ base → Below B0 W0 w') := by
 have grown : ∀ {w1 : World}, w.grownBy w1 v.ownBlock → ∀ W0 B0, Below B0 W0 w → B0 ≤ base → Below B0 W0 w1 := fun hg W0 B0 hb hB0 =>
  qar hb (by omega) hg (fun k hk => by have := (hrow.lt k hk).1; omega)
 have hm := hrow2.len;by_cases h0 : m = 0
 ·subst h0;have : its2 = [] := List.eq_nil_of_length_eq_zero hm.symm;subst this;have hc0 : ∀ ty, (Builtin.append_ #[22, 22] ty #[v, .slice A 0 c]).run Tryz.prog w = .ok v w := fun ty => qeg hrow.own A c ty;rcases hrow.own.2 with ⟨hv, h0⟩ | ⟨g, cap, cur, hv, _⟩
  ·refine ⟨none, 0, w, fun ty => ?_, ?_, fun _ _ h _ => h⟩
   ·rw [hv] at hc0; rw [hv, h0]; exact hc0 ty
   ·rw [hv] at hrow; rw [List.append_nil, h0]; exact hrow
  ·refine ⟨some ⟨g, 0, none⟩, cap, w, fun ty => ?_, ?_, fun _ _ h _ => h⟩
   ·have h2 := hc0 ty; rw [hv] at h2; rw [hv]; exact h2
   ·rw [hv] at hrow; rw [List.append_nil]; exact hrow
 ·obtain ⟨g2, rfl⟩ := hrow2.some (by omega);obtain ⟨A', c', w', h1, h2, h3, -⟩ := hrow.more (fun b h => by omega) hbase g2 0 c m its2 hm hrow2.cells (fun x hx => RepP.mono (fun b h => h.1) (fun _ _ => rfl) _ _ _ (hrow2.reps x hx)) hlen;exact ⟨A', c', w', h1, h2, grown h3⟩
def varsL (l : List Tm) : List Tm := l.flatMap varsOf
theorem qni (l : List Tm) (k : Nat) (h : k < l.length) : varsL (l.take (k + 1)) = varsL (l.take k) ++ varsOf l[k] := by
 unfold varsL;rw [List.take_succ_eq_append_getElem h, List.flatMap_append];simp
theorem qfb : ∀ l : List Tm, (varsL l).length ≤ Tm.sizes l
 | [] => by simp [varsL]
 | t :: r => by
  have h1 := qbu t;have h2 := qfb r;have e : varsL (t :: r) = varsOf t ++ varsL r := rfl;rw [e, List.length_append, Tm.sizes];omega
theorem varsL_mem {l : List Tm} {x : Tm} (h : x ∈ varsL l) : ∃ t ∈ l, x ∈ varsOf t := by
 unfold varsL at h;obtain ⟨t, h1, h2⟩ := List.mem_flatMap.1 h;exact ⟨t, h1, h2⟩
theorem qlp {t x : Tm} (h : x ∈ varsOf t) : x.size ≤ t.size := by
 unfold varsOf at h;rw [Tm.mem_set, List.mem_filter] at h;exact Tm.mem_all_size t x h.1
theorem qkg : ∀ {l : List Tm} {t : Tm}, t ∈ l → t.size ≤ Tm.sizes l
 | y :: r, t, h => by
  rw [Tm.sizes];rcases List.mem_cons.1 h with rfl | h
  ·omega
  ·have := qkg h; omega
set_option maxHeartbeats 2000000 in
theorem qlu (l : List Tm) (A : Option Addr) (cap : Nat) (w : World) (B : Nat) (hB : B ≤ w.heap.size) (hn : Tm.sizes l ≤ 1000000) (hrep : RepS w (fun b => b < B) l A cap) :
  Calls Tryz.prog 52 #[.slice A l.length cap] w (qfz w B (Tm.set (varsL l))) := by
 obtain ⟨hr1, hr2, hr4⟩ := hrep;have hls := Tm.length_le_sizes l;go_enter Tryz.func52, Tryz.ntmps52
 go_wp2_with fail
 go_loopw [3, 4] (fun v i wr => ∃ (k m c : Nat) (A' : Option Addr) (its : List It), k ≤ l.length ∧ i = .int .i64 k ∧ v = .slice A' m c ∧ Hid (RowT wr w.heap.size (fun b => b < B) (.slice A' m c) its) ∧
   Hid (its.map (·.1) = varsL (l.take k)) ∧ Hid (Below w.heap.size w wr))
  (fun _ i _ => l.length - (intOf i).toNat)
 case atStart => exact ⟨0, 0, 0, none, [], Nat.zero_le _, rfl, rfl, RowT.nil _ _ _, (by show _ = _; simp [varsL]), Below.refl _ _⟩
 case round =>
  obtain ⟨k, m, c, A', its, hk, rfl, rfl, HR, HM, HBW⟩ := hrel;have htl := Tm.sizes_take_le l k;have HML : Hid (m = its.length ∧ m ≤ Tm.sizes (l.take k)) := by
   have h2 := congrArg List.length HM.out;rw [List.length_map] at h2;have h3 := qfb (l.take k);have h4 := HR.out.len;exact ⟨h4, by omega⟩
  by_cases hlt : k < l.length
  ·rcases hr4 with h | ⟨b, off, hA, hbB, hl⟩
   ·rw [h] at hlt; simp at hlt
   subst hA;have hlw : RepL wr B l b off := RepL.below hl (HBW.out.mono hB) hbB;obtain ⟨Ak, ck, h0, h1, h2, h3, h5⟩ := qal.get hlw k hlt;have hsg := Tm.sizes_get l k hlt;have hsw := HBW.out.size;have hC := qki l[k] Ak ck wr B (by omega) (by omega) h5;rw [show Tm.set (l[k].all.filter fun u => u.kind == 1) = varsOf l[k] from rfl] at hC;have hvl := qbu l[k];have hsn := qni l k hlt;have hvs : Tm.sizes (l.take k) + l[k].size ≤ 2000000 := by omega
   generalize varsOf l[k] = V at *;have HSN := Lib.hid hsn;have HC := Lib.hid hC;clear h5 hlw hsn hC;simp only [Tm.val] at HC;go_wp2_with fail
   refine HC.out.mono ?_;rintro e w1 ⟨A2, c2, m2, its2, rfl, hm2, hrow2, hbel2, hmap2⟩;have hs1 := hbel2.size;have hm0 := HML.out;obtain ⟨A3, c3, w2, hap, hrow3, hg3⟩ := qnq (HR.out.below hbel2) (by omega) (by omega) hrow2 (by omega);have hb3 : Below w.heap.size w w2 := hg3 _ _ (HBW.out.trans (hbel2.mono hsw)) (Nat.le_refl _);rw [← hm0.1] at hap hrow3;have HM3 : Hid ((its ++ its2).map (·.1) = varsL (l.take (k + 1))) := by
    show _ = _;rw [List.map_append, HM.out, hmap2, HSN.out]
   have HR3 := Lib.hid hrow3; clear hrow3;have HB3 := Lib.hid hb3; clear hb3;clear hrow2 hbel2 hmap2 hg3 hm2 hm0;go_wp2_with (at_builtin; refine qaj rfl _ _ rfl rfl rfl hap ?_)
   go_roundw
   case rel => exact ⟨k + 1, _, c3, A3, _, by omega, by go_num, rfl, HR3.out, HM3.out, HB3.out⟩
   case measure => simp [intOf]; omega
  ·obtain rfl : k = l.length := by omega
   have hm : its.map (·.1) = varsL l := by rw [HM.out, List.take_length]
   have hml : m ≤ 1000000 := by have := HML.out.2; rw [List.take_length] at this; omega
   have hS := set_any its w.heap.size A' m c wr B (by have := HBW.out.size; omega) HR.out hml (fun x hx => by
    have h1 : x.1 ∈ varsL l := by rw [← hm]; exact List.mem_map_of_mem hx
    obtain ⟨t, ht, hxt⟩ := varsL_mem h1;exact Nat.le_trans (qlp hxt) (Nat.le_trans (qkg ht) hn))
   rw [hm] at hS;have HS := Lib.hid (hS.mono fun _ _ h => h.loosen HBW.out); clear hS hm;clear hr4;go_wp2_with fail
   refine HS.out.mono ?_;rintro e w2 ⟨A2, c2, n2, its2, rfl, hs⟩;have HS2 := Lib.hid hs; clear hs;go_wp2_with fail
   go_ret
   exact ⟨A2, c2, n2, its2, rfl, HS2.out⟩
end Go.Proofs.YtpjmdilpldaapaaGreatDoor
