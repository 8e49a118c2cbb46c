/- The reference's lists: All. -/
import Derived.Test.YtbgkabgbgbebaaaDoorGuard
import Derived.Test.YtbgkabgbgbebaaaDoorSubterms
namespace Go.Proofs.YtbgkabgbgbebaaaDoor
open Go.RowKit Go.Sort

/-- The answer is a new list of these terms, whose kids lie where they lay, below B. -/
def ListOf (w : World) (B : Nat) (l : List Tm) (e : Ending) (w' : World) : Prop :=
  ∃ A cap n its, e = .returned (.slice A n cap) ∧ n = l.length ∧ RowT w' w.heap.size (fun b => b < B) (.slice A n cap) its ∧ Below w.heap.size w w' ∧ its.map (·.1) = l

theorem RowT.lit1 {w : World} {base : Nat} {F : Nat → Prop} (X : It) (hb : base ≤ w.heap.size) (hF : ∀ b, F b → b < base) (hX : RepP w F X.1 X.2.1 X.2.2) :
    RowT (w.alloc (.cells #[.int .i64 X.1.kind, .string X.1.name, .int .i64 X.1.sort, .slice X.2.1 X.1.kids.length X.2.2] 24)) base F (.slice (some ⟨w.heap.size, 0, none⟩) 1 1) [X] := by
  refine ⟨World.ownsRow_lit w #[.int .i64 X.1.kind, .string X.1.name, .int .i64 X.1.sort, .slice X.2.1 X.1.kids.length X.2.2] 1 hb (by simp [maxLen]) rfl, fun x hx => ?_⟩
  rw [List.mem_singleton.1 hx]
  refine RepP.mono (fun b h => ⟨h, ?_, fun e => ?_⟩) (fun p hp => World.cell?_of_block (Below.heap_alloc _ _ _ (by have := hF _ hp; omega))) _ _ _ hX
  · have := hF b h; simp; omega
  · have h1 := hF b h; injection e with e; simp at e; omega

theorem RowT.some {w : World} {base : Nat} {F : Nat → Prop} {A : Option Addr} {n cap : Nat} {its : List It} (h : RowT w base F (.slice A n cap) its) (hp : 0 < n) : ∃ g, A = some ⟨g, 0, none⟩ := by
  rcases h.own.2 with ⟨hv, _⟩ | ⟨g, cap', cur, hv, _⟩
  · injection hv with _ h2; omega
  · injection hv with h1; exact ⟨g, h1⟩
theorem RowT.len {w : World} {base : Nat} {F : Nat → Prop} {A : Option Addr} {n cap : Nat} {its : List It} (h : RowT w base F (.slice A n cap) its) : n = its.length := by
  rcases h.own.2 with ⟨hv, h0⟩ | ⟨g, cap', cur, hv, _⟩
  · injection hv with _ h2; omega
  · injection hv

set_option maxHeartbeats 2000000 in
set_option maxRecDepth 100000 in
theorem rall_any (n : Nat) : ∀ (t : Tm) (A : Option Addr) (cap : Nat) (w : World) (B : Nat), t.size ≤ n → n ≤ 1000000 → B ≤ w.heap.size → RepT w B t A cap →
    Calls Tryd.prog 22 #[t.val A cap] w (ListOf w B t.all) := by
  induction n with
  | zero => intro t _ _ _ _ h; have := t.size_pos; omega
  | succ n ih =>
    intro t A cap w B hn hb hB hrep
    have hrep0 := hrep
    obtain ⟨tk, tn, ts, l⟩ := t
    obtain ⟨W0, hW0⟩ : ∃ W0, W0 = w.alloc (.cells #[.int .i64 tk, .string tn, .int .i64 ts, .slice A l.length cap] 24) := ⟨_, rfl⟩
    have hs0 : W0.heap.size = w.heap.size + 1 := by rw [hW0]; simp
    have hb0 : Below w.heap.size w W0 := by rw [hW0]; exact below1 (Nat.le_refl _) _
    have hlit : RowT (W0.alloc (.cells #[.int .i64 tk, .string tn, .int .i64 ts, .slice A l.length cap] 24)) (w.heap.size + 1) (fun b => b < B) (.slice (some ⟨W0.heap.size, 0, none⟩) 1 1) [(.mk tk tn ts l, A, cap)] :=
      RowT.lit1 (.mk tk tn ts l, A, cap) (by omega) (fun b h => by omega) (RepP.mono (fun _ h => h) (fun p hp => hb0.cell (by have : p.block < B := hp; omega)) _ _ _ hrep0)
    have hb1 : Below (w.heap.size + 1) W0 (W0.alloc (.cells #[.int .i64 tk, .string tn, .int .i64 ts, .slice A l.length cap] 24)) := below1 (by omega) _
    rw [hs0] at hlit
    have hbx : W0.cell? ⟨w.heap.size, 3, none⟩ = some (.slice A l.length cap) := by rw [hW0]; simp
    rw [RepT_mk] at hrep
    obtain ⟨hr1, hr2, hr3, hr4⟩ := hrep
    rw [Tm.size] at hn
    have hls := Tm.length_le_sizes l
    have HLIT := Lib.hid hlit; clear hlit
    have HB1 := Lib.hid hb1; clear hb1
    have HB0 := Lib.hid hb0; clear hb0
    have HBX := Lib.hid hbx; clear hbx
    have HS0 := Lib.hid hs0; clear hs0
    have HW0 := Lib.hid hW0
    rw [hW0] at HLIT HB1
    clear hW0 hrep0
    simp only [Tm.val, Tm.kind, Tm.name, Tm.sort, Tm.kids]
    go_enter Tryd.func22, Tryd.ntmps22
    go_wp2_with fail
    go_loopw [3, 4] (fun v i wr => ∃ (k m c : Nat) (A' : Option Addr) (its : List It), k ≤ l.length ∧ i = .int .i64 k ∧ v = .slice A' m c ∧ Hid (RowT wr (w.heap.size + 1) (fun b => b < B) (.slice A' m c) its) ∧
        Hid (its.map (·.1) = Tm.mk tk tn ts l :: Tm.alls (l.take k)) ∧ Hid (Below (w.heap.size + 1) W0 wr))
      (fun _ i _ => l.length - (intOf i).toNat)
    case atStart => exact ⟨0, 1, 1, _, _, Nat.zero_le _, rfl, rfl, HLIT.out, by simp [Tm.alls, Hid], by rw [HW0.out]; exact HB1.out⟩
    case round =>
      obtain ⟨k, m, c, A', its, hk, rfl, rfl, HR, HM, HBW⟩ := hrel
      have hbox : wr.cell? ⟨w.heap.size, 3, none⟩ = some (.slice A l.length cap) := by rw [HBW.out.cell (by simp)]; exact HBX.out
      have hbww : Below w.heap.size w wr := HB0.out.trans (HBW.out.mono (by omega))
      by_cases hlt : k < l.length
      · rcases hr4 with rfl | ⟨b, off, rfl, hbB, hl⟩
        · simp at hlt
        have hlw : RepL wr B l b off := RepL.below hl (hbww.mono hB) hbB
        obtain ⟨Ak, ck, h0, h1, h2, h3, h5⟩ := RepLP.get hlw k hlt
        have hsg := Tm.sizes_get l k hlt
        have htk := Tm.sizes_take_succ l k hlt
        have htl := Tm.sizes_take_le l (k + 1)
        have hsw := hbww.size
        have hC := ih l[k] Ak ck wr B (by omega) (by omega) (by omega) h5
        have HC := Lib.hid hC; clear hC h5 hlw
        have hml : m = 1 + Tm.sizes (l.take k) := by
          have h1 := HR.out.len
          have h2 := congrArg List.length HM.out
          rw [List.length_map, List.length_cons, Tm.alls_length] at h2; omega
        have hB0 := HS0.out
        have hBs := HBW.out.size
        have hml2 : its.length = m := HR.out.len.symm
        clear hml2
        have HML := Lib.hid hml; clear hml
        simp only [Tm.val] at HC
        go_wp2_with fail
        have hml := HML.out
        have hml2 : its.length = m := HR.out.len.symm
        refine HC.out.mono ?_
        rintro e w1 ⟨A2, c2, m2, its2, rfl, hm2, hrow2, hbel2, hmap2⟩
        rw [Tm.all_length] at hm2
        have hsp := l[k].size_pos
        obtain ⟨g2, rfl⟩ := hrow2.some (by omega)
        have hs1 := hbel2.size
        obtain ⟨A3, c3, w2, hap, hrow3, hgr3, _⟩ := (HR.out.below hbel2).more (fun b h => by omega) (by omega) g2 0 c2 m2 its2 hrow2.len hrow2.cells
          (fun x hx => RepP.mono (fun b h => h.1) (fun _ _ => rfl) _ _ _ (hrow2.reps x hx)) (by omega)
        rw [hml2] at hap hrow3
        clear hml
        have hb3 : Below (w.heap.size + 1) W0 w2 := below_of_grown (HBW.out.trans (hbel2.mono (by omega))) (by omega) hgr3 (fun q hq => (HR.out.lt q hq).1)
        have hm3 : (its ++ its2).map (·.1) = Tm.mk tk tn ts l :: Tm.alls (l.take (k + 1)) := by
          show (its ++ its2).map (·.1) = _
          rw [List.map_append, HM.out, hmap2, Tm.alls_take_succ l k hlt]; rfl
        have HR3 := Lib.hid hrow3; clear hrow3
        have HB3 := Lib.hid hb3; clear hb3
        have HM3 := Lib.hid hm3; clear hm3
        clear hrow2 hbel2 hmap2 hgr3
        have HM2 := Lib.hid hm2; clear hm2
        have HML2 := Lib.hid hml2; clear hml2
        go_wp2_with (at_builtin; refine wpList_run_append rfl _ _ rfl rfl rfl hap ?_)
        go_roundw
        case rel => exact ⟨k + 1, _, c3, A3, _, by omega, by go_num, rfl, HR3.out, HM3.out, HB3.out⟩
        case measure => simp [intOf]; omega
      · obtain rfl : k = l.length := by omega
        have hm : its.map (·.1) = (Tm.mk tk tn ts l).all := by rw [HM.out, List.take_length, Tm.all]
        have hlen : m = (Tm.mk tk tn ts l).all.length := by rw [← hm, List.length_map]; exact HR.out.len
        have HM' := Lib.hid hm; clear hm
        have HLEN := Lib.hid hlen; clear hlen
        have HBWW := Lib.hid hbww; clear hbww
        go_wp2_with fail
        go_ret
        exact ⟨A', c, m, its, rfl, HLEN.out, HR.out.loosen (by omega) (fun _ h => h), HBWW.out, HM'.out⟩
end Go.Proofs.YtbgkabgbgbebaaaDoor
