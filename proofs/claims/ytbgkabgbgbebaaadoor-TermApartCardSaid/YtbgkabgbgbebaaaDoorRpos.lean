/- The document's Positions. -/
import Derived.Test.YtbgkabgbgbebaaaDoorPos
import Derived.Test.YtbgkabgbgbebaaaDoorAll
import Derived.Test.YtbgkabgbgbebaaaDoorBox
namespace Go.Proofs.YtbgkabgbgbebaaaDoor
open Go.RowKit

theorem ints_more {w : World} {base n : Nat} {v : Value} {p : List Int} (hrow : w.ownsRow base 3 1 v n (ints p)) (hbase : base ≤ w.heap.size) (b off c m : Nat) (q : List Int) (hm : m = q.length)
    (hc : ∀ j u, (ints q)[j]? = some u → w.cell? ⟨b, off + j, none⟩ = some u) (hlen : n + m ≤ 100000000) :
    ∃ v' w', (∀ ty, (Builtin.append_ #[37, 37] ty #[v, .slice (some ⟨b, off, none⟩) m c]).run Tryd.prog w = .ok v' w') ∧ w'.ownsRow base 3 1 v' (n + m) (ints (p ++ q)) ∧ w.grownBy w' v.ownBlock := by
  subst hm
  obtain ⟨i0, hi0, hz0, hz1, hz2⟩ := info_parts intInfo
  have hadd : ∀ j, (⟨b, off, none⟩ : Addr).add j = ⟨b, off + j, none⟩ := fun j => by unfold Addr.add; split <;> simp_all
  obtain ⟨v', w', hr, ho, hg, -⟩ := run_append_own (P := Tryd.prog) w base 37 0 3 i0 _ 1 8 Tryd.underlying37 hi0 hz0 hz1 hz2 rfl (by omega) v n (ints p) hrow ⟨b, off, none⟩ q.length c (ints q)
    (by simp [ints_length]) (fun j u hj => by rw [hadd]; exact hc j u hj) (ints_one q) (by unfold maxLen; omega) (by omega) hbase
  exact ⟨v', w', fun ty => hr, by rw [ints, List.map_append]; exact ho, hg⟩

theorem PRow.more1 {w : World} {base : Nat} {F : Nat → Prop} {v : Value} {its : List Ip} (hrow : PRow w base F v its) (hbase : base ≤ w.heap.size) (X : Ip)
    (hX : IRep w (fun b => F b ∧ b < w.heap.size ∧ v.ownBlock ≠ some b) X.1 X.2.1 X.2.2) (hlen : its.length + 1 ≤ 100000000) :
    ∃ g c' w', (∀ ty, (Builtin.append_ #[31, 31] ty #[v, .slice (some ⟨w.heap.size, 0, none⟩) 1 1]).run Tryd.prog (w.alloc (.cells #[ipVal X] 37)) = .ok (.slice (some ⟨g, 0, none⟩) (its.length + 1) c') w') ∧
      PRow w' base F (.slice (some ⟨g, 0, none⟩) (its.length + 1) c') (its ++ [X]) ∧ (w.alloc (.cells #[ipVal X] 37)).grownBy w' v.ownBlock ∧ (v.ownBlock = some g ∨ g = w.heap.size + 1) := by
  obtain ⟨i0, hi0, hz0, hz1, hz2⟩ := info_parts posInfo
  have hb : Below w.heap.size w (w.alloc (.cells #[ipVal X] 37)) := below1 (Nat.le_refl _) _
  have hrow' := hrow.below hb
  have hn := heap_alloc_new w (.cells #[ipVal X] 37)
  obtain ⟨v', w', hr, ho, hg, -, hat⟩ := run_append_own_at (P := Tryd.prog) (w := w.alloc (.cells #[ipVal X] 37)) base 31 0 37 i0 _ 1 24 Tryd.underlying31 hi0 hz0 hz1 hz2 rfl (by omega) v its.length (its.map ipVal) hrow'.own
    ⟨w.heap.size, 0, none⟩ 1 1 [ipVal X] rfl (fun j u hj => by
      match j, hj with
      | 0, hj =>
        simp only [List.getElem?_cons_zero, Option.some.injEq] at hj
        subst hj
        unfold World.cell? Addr.add
        simp only [if_true, hn]
        rfl
      | j + 1, hj => simp at hj) (fun u hu => ip_one [X] u (by simpa using hu)) (by unfold maxLen; omega) (by omega) (by simp; omega)
  rcases ho.2 with ⟨-, h0⟩ | ⟨g, cap, cur, rfl, _⟩
  · omega
  · have hat' : v.ownBlock = some g ∨ g = (w.alloc (.cells #[ipVal X] 37)).heap.size := by
      rcases hat with h | h
      · exact .inl h.symm
      · exact .inr (by injection h)
    refine ⟨g, cap, w', fun ty => hr, prow_push hrow' (IRep.mono (fun b ⟨h1, h2, h3⟩ => ⟨h1, by simp; omega, h3⟩) (fun p ⟨_, h2, _⟩ => hb.cell h2) hX) ho hg hat', hg, ?_⟩
    simpa using hat'

mutual
theorem Tm.poss_len : ∀ (t : Tm) (p : List Int), p ∈ t.poss → p.length < t.size
  | .mk _ _ _ l, p, h => by
    rw [Tm.poss, List.mem_cons] at h
    rw [Tm.size]
    rcases h with rfl | h
    · simp; omega
    · have := Tm.posss_len l 0 p h; omega
theorem Tm.posss_len : ∀ (l : List Tm) (i : Nat) (p : List Int), p ∈ Tm.posss l i → p.length < 1 + Tm.sizes l
  | [], _, p, h => by simp [Tm.posss] at h
  | t :: r, i, p, h => by
    rw [Tm.posss, List.mem_append, List.mem_map] at h
    rw [Tm.sizes]
    rcases h with ⟨q, hq, rfl⟩ | h
    · have := Tm.poss_len t q hq; simp; omega
    · have := Tm.posss_len r (i + 1) p h; omega
end

theorem PosOf.keep_row {wr w1 w2 : World} {v : Value} {its : List Ip} (h : PRow w1 wr.heap.size (fun b => wr.heap.size ≤ b) v its) (hs : w1.heap.size ≤ w2.heap.size)
    (hc : ∀ b, wr.heap.size ≤ b → b < w1.heap.size → w2.heap[b]? = w1.heap[b]?) : PRow w2 wr.heap.size (fun b => wr.heap.size ≤ b) v its :=
  h.keep hs fun b hb hor => hc b (by
    rcases hor with hor | hor
    · exact hor
    · exact (h.lt b hor).1) hb

set_option maxHeartbeats 2000000 in
set_option maxRecDepth 100000 in
theorem rposs_any (n : Nat) : ∀ (t : Tm) (A : Option Addr) (cap : Nat) (w : World), t.size ≤ n → n ≤ 1000000 → RepT w w.heap.size t A cap →
    Calls Tryd.prog 21 #[t.val A cap] w (PosOf w t.poss) := by
  induction n with
  | zero => intro t _ _ _ h; have := t.size_pos; omega
  | succ n ih =>
    intro t A cap w hn hb hrep
    obtain ⟨tk, tn, ts, l⟩ := t
    obtain ⟨W0, hW0⟩ : ∃ W0, W0 = w.alloc (.cells #[.int .i64 tk, .string tn, .int .i64 ts, .slice A l.length cap] 24) := ⟨_, rfl⟩
    have hs0 : W0.heap.size = w.heap.size + 1 := by rw [hW0]; simp
    have hb0 : Below w.heap.size w W0 := by rw [hW0]; exact below1 (Nat.le_refl _) _
    obtain ⟨W1, hW1⟩ : ∃ W1, W1 = W0.alloc (.cells #[] 3) := ⟨_, rfl⟩
    obtain ⟨W2, hW2⟩ : ∃ W2, W2 = W1.alloc (.cells #[.slice (some ⟨w.heap.size + 1, 0, none⟩) 0 0] 37) := ⟨_, rfl⟩
    have hs1 : W1.heap.size = w.heap.size + 1 + 1 := by rw [hW1]; simp [hs0]
    have hb1 : Below W0.heap.size W0 W1 := by rw [hW1]; exact below1 (Nat.le_refl _) _
    have hb2 : Below W1.heap.size W1 W2 := by rw [hW2]; exact below1 (Nat.le_refl _) _
    have hb12 : Below (w.heap.size + 1) W0 W2 := by
      have := below_then hb1 hb2 hb1.size
      rwa [hs0] at this
    have hbx : W0.cell? ⟨w.heap.size, 3, none⟩ = some (.slice A l.length cap) := by rw [hW0]; simp
    have hlit : PRow W2 (w.heap.size + 1) (fun b => w.heap.size + 1 ≤ b) (.slice (some ⟨w.heap.size + 1 + 1, 0, none⟩) 1 1) [([], some ⟨w.heap.size + 1, 0, none⟩, 0)] := by
      refine ⟨?_, fun x hx => ?_⟩
      · have := World.ownsRow_lit (base := w.heap.size + 1) (e := 37) (size := 1) W1 #[.slice (some ⟨w.heap.size + 1, 0, none⟩) 0 0] 1 (by omega) (by simp [maxLen]) rfl
        rw [hs1] at this
        rw [hW2]
        exact this
      · rw [List.mem_singleton.1 hx]
        refine ⟨w.heap.size + 1, 0, rfl, ⟨Nat.le_refl _, by rw [hW2]; simp [hs1], fun e => by injection e with e; simp at e⟩, Nat.le_refl _, Nat.zero_le _, fun j u hj => by simp [ints] at hj⟩
    rw [RepT_mk] at hrep
    obtain ⟨hr1, hr2, hr3, hr4⟩ := hrep
    rw [Tm.size] at hn
    have hls := Tm.length_le_sizes l
    have hlb : l.length ≤ 1000000 := by omega
    rw [hW1] at hW2
    have HW2 := Lib.hid hW2
    have HLIT := Lib.hid hlit; clear hlit
    have HB12 := Lib.hid hb12; clear hb12 hb1 hb2 hs1 hW1
    have HB0 := Lib.hid hb0; clear hb0
    have HBX := Lib.hid hbx; clear hbx
    have HS0 := Lib.hid hs0; clear hs0
    have HW0 := Lib.hid hW0
    rw [hW2, hW0] at HLIT HB12
    clear hW0 hW2
    simp only [Tm.val, Tm.kind, Tm.name, Tm.sort, Tm.kids]
    go_enter Tryd.func21, Tryd.ntmps21
    go_wp2_with fail
    go_loopw [3, 4] (fun v i wr => ∃ (k m c : Nat) (A' : Option Addr) (its : List Ip), k ≤ l.length ∧ i = .int .i64 k ∧ v = .slice A' m c ∧ Hid (m = its.length) ∧ Hid (PRow wr (w.heap.size + 1) (fun b => w.heap.size + 1 ≤ b) (.slice A' m c) its) ∧
        Hid (its.map (·.1) = [] :: Tm.posss (l.take k) 0) ∧ Hid (Below (w.heap.size + 1) W0 wr))
      (fun _ i _ => l.length - (intOf i).toNat)
    case atStart => exact ⟨0, 1, 1, _, [([], some ⟨w.heap.size + 1, 0, none⟩, 0)], Nat.zero_le _, rfl, rfl, Lib.hid rfl, HLIT.out, by simp [Tm.posss, Hid], by rw [HW0.out]; exact HB12.out⟩
    case round =>
      obtain ⟨k, m, c, A', its, hk, rfl, rfl, HL, HR, HM, HBW⟩ := hrel
      obtain ⟨wo, rfl⟩ : ∃ x, x = wr := ⟨wr, rfl⟩
      clear HLIT HB12 HW2
      have hbox : wo.cell? ⟨w.heap.size, 3, none⟩ = some (.slice A l.length cap) := by rw [HBW.out.cell (by simp)]; exact HBX.out
      have hbww : Below w.heap.size w wo := HB0.out.trans (HBW.out.mono (by omega))
      have i1 : (0 : Int) ≤ (k : Int) := Int.natCast_nonneg _
      by_cases hlt : k < l.length
      · rcases hr4 with rfl | ⟨b, off, rfl, hbB, hl⟩
        · simp at hlt
        have hlw : RepL wo w.heap.size l b off := RepL.below hl hbww hbB
        obtain ⟨Ak, ck, h0, h1, h2, h3, h5⟩ := RepLP.get hlw k hlt
        have hsg := Tm.sizes_get l k hlt
        have hsw := hbww.size
        have hC := ih l[k] Ak ck wo (by omega) (by omega) (RepP.mono (fun b h => by omega) (fun _ _ => rfl) _ _ _ h5)
        have HC := Lib.hid hC; clear hC h5 hlw
        have HBWW := Lib.hid hbww; clear hbww
        have i2 : (k : Int) < (l.length : Int) := by omega
        have hks : l[k].size ≤ 1000000 := by omega
        have HSG := Lib.hid hsg; clear hsg
        have HN := Lib.hid hn; clear hn
        have HKS := Lib.hid hks; clear hks
        simp only [Tm.val] at HC
        go_wp2_with fail
        refine HC.out.mono ?_
        rintro e w1 ⟨v5, its5, rfl, hrow5, hbel5, hmap5⟩
        obtain ⟨A5, c5, rfl, -⟩ := hrow5.form
        have hl5 : its5.length = l[k].size := by rw [← Tm.poss_length, ← hmap5, List.length_map]
        have hown : ∀ g, (Value.slice A' m c).ownBlock = some g → g < wo.heap.size ∨ w1.heap.size ≤ g := fun g hg => .inl (HR.out.lt g hg).2
        have hR1 := HR.out.below hbel5
        have hB1 : Below (w.heap.size + 1) W0 w1 := HBW.out.trans (hbel5.mono (by have := HS0.out; have := HBW.out.size; omega))
        have hs15 := hbel5.size
        have hml0 : its.length = 1 + Tm.sizes (l.take k) := by
          have := congrArg List.length HM.out
          rw [List.length_map, List.length_cons, Tm.posss_length] at this; omega
        have htl : Tm.sizes (l.take k) + l[k].size ≤ Tm.sizes l := by
          have h1 := Tm.sizes_take_succ l k hlt
          have h2 := Tm.sizes_take_le l (k + 1)
          omega
        have hl5' : its5.length ≤ 1000000 := by have := HKS.out; omega
        have hlt3 : its.length + its5.length ≤ 1000000 := by have := HN.out; omega
        have HLT3 := Lib.hid hlt3; clear hlt3 htl hml0
        have HL5 := Lib.hid hl5; clear hl5
        have HM5 := Lib.hid hmap5; clear hmap5
        have HOWN := Lib.hid hown; clear hown
        have HR1 := Lib.hid hR1; clear hR1
        have HB1 := Lib.hid hB1; clear hB1
        have HROW5 := Lib.hid hrow5; clear hrow5 hbel5 HC
        have HS15 := Lib.hid hs15; clear hs15
        go_wp2_with fail
        go_loopw [3, 6] (fun v j wq => ∃ (q m' c' : Nat) (A2 : Option Addr) (its2 : List Ip), q ≤ its5.length ∧ j = .int .i64 q ∧ v = .slice A2 m' c' ∧ Hid (m' = its2.length) ∧ Hid (PRow wq (w.heap.size + 1) (fun b => w.heap.size + 1 ≤ b) (.slice A2 m' c') its2) ∧
            Hid (its2.map (·.1) = its.map (·.1) ++ (l[k].poss.take q).map ((k : Int) :: ·)) ∧ Hid (Below (w.heap.size + 1) W0 wq) ∧
            Hid (w1.heap.size ≤ wq.heap.size ∧ (∀ b, wo.heap.size ≤ b → b < w1.heap.size → wq.heap[b]? = w1.heap[b]?) ∧ ∀ g, (Value.slice A2 m' c').ownBlock = some g → g < wo.heap.size ∨ w1.heap.size ≤ g))
          (fun _ j _ => its5.length - (intOf j).toNat)
        case atStart => exact ⟨0, m, c, A', its, Nat.zero_le _, rfl, rfl, HL, HR1, Lib.hid (by simp), HB1, Lib.hid ⟨Nat.le_refl _, fun _ _ _ => rfl, HOWN.out⟩⟩
        case round =>
          obtain ⟨q, m2, c2, A2, its2, hq, rfl, rfl, HL2, HR2, HM2, HB2, HK2⟩ := hrel
          clear HR1 HB1 HOWN
          have j1 : (0 : Int) ≤ (q : Int) := Int.natCast_nonneg _
          by_cases hlt2 : q < its5.length
          · have j2 : (q : Int) < (its5.length : Int) := by omega
            obtain ⟨k21, k22, k23⟩ := HK2.out
            have hrow5q := PosOf.keep_row HROW5.out k21 k22
            obtain ⟨g5, rfl, hslot⟩ := hrow5q.slot q hlt2
            have hrep5 := hrow5q.reps its5[q] (List.getElem_mem _)
            have hp5 : its5[q].1 ∈ l[k].poss := by rw [← HM5.out]; exact List.mem_map_of_mem (List.getElem_mem _)
            have hpq : (its5[q].1 :: []) = (l[k].poss.drop q).take 1 := by
              have e : l[k].poss[q]? = some its5[q].1 := by rw [← HM5.out]; simp [hlt2]
              obtain ⟨hlt9, e9⟩ := List.getElem?_eq_some_iff.1 e
              rw [List.drop_eq_getElem_cons hlt9, e9]; rfl
            obtain ⟨X, hX⟩ : ∃ X, X = its5[q] := ⟨_, rfl⟩
            rw [← hX] at hslot hrep5 hp5 hpq
            clear hX
            obtain ⟨p5, B5, k5⟩ := X
            obtain ⟨bq, oq, hAq, ⟨hbq1, hbq2, -⟩, hq1, hq2, hq3⟩ := hrep5
            simp only at hslot hAq hq1 hq2 hq3 hp5 hpq
            subst hAq
            have hpl : p5.length < l[k].size := Tm.poss_len _ _ hp5
            have hpl2 : p5.length ≤ 1000000 := by have := HKS.out; omega
            have own3 : (wr.alloc (.cells #[.int .i64 k] 3)).ownsRow wr.heap.size 3 1 (.slice (some ⟨wr.heap.size, 0, none⟩) 1 1) 1 (ints [(k : Int)]) := World.ownsRow_lit (size := 1) wr #[.int .i64 k] 1 (Nat.le_refl _) (by simp [maxLen]) rfl
            have hb3 : Below wr.heap.size wr (wr.alloc (.cells #[.int .i64 k] 3)) := below1 (Nat.le_refl _) _
            obtain ⟨v4, w4, hap1, own4, hg4⟩ := ints_more own3 (by simp) bq oq k5 p5.length p5 rfl (fun j u hj => by rw [hb3.cell (by simpa using hbq2)]; exact hq3 j u hj) (by omega)
            have hb4 : Below wr.heap.size wr w4 := below_of_grown hb3 (by simp) hg4 (fun g hg => (own3.lt g hg).1)
            have hv4 : v4 ≠ .slice none 0 0 := by
              rintro rfl
              rcases own4.2 with ⟨-, h0⟩ | ⟨_, _, _, h, _⟩
              · omega
              · cases h
            obtain ⟨g4, cap4, rfl, hg41, hg42, hI⟩ := irep_of_own own4 (by simp; omega) hv4
            have hrow4 := HR2.out.below hb4
            have hml : its2.length + 1 ≤ 100000000 := by
              have h1 := congrArg List.length HM2.out
              have h2 := HLT3.out
              simp only [List.length_map, List.length_append, List.length_take] at h1
              omega
            have hs4 := hb4.size
            have hwq : w.heap.size + 1 ≤ wr.heap.size := by have := HB2.out.size; have := HS0.out; omega
            obtain ⟨g6, c6, w5, hap2, hrow5', hg5, hat5⟩ := hrow4.more1 (by omega) (((k : Int) :: p5), some ⟨g4, 0, none⟩, cap4) (hI _ ⟨by omega, hg42, fun e => by have := (HR2.out.lt g4 e).2; omega⟩) hml
            simp only [ipVal, List.length_cons] at hap2
            rw [Nat.add_comm p5.length 1] at hap2
            have hb5 : Below (w.heap.size + 1) W0 w5 := by
              have h1 : Below (w.heap.size + 1) W0 (w4.alloc (.cells #[ipVal ((k : Int) :: p5, some ⟨g4, 0, none⟩, cap4)] 37)) := (HB2.out.trans (hb4.mono hwq)).alloc (by omega) _
              exact below_of_grown h1 (by simp; omega) hg5 (fun g hg => (HR2.out.lt g hg).1)
            have hk5 : w1.heap.size ≤ w5.heap.size ∧ (∀ b, wo.heap.size ≤ b → b < w1.heap.size → w5.heap[b]? = w1.heap[b]?) ∧ ∀ g, (Value.slice (some ⟨g6, 0, none⟩) (its2.length + 1) c6).ownBlock = some g → g < wo.heap.size ∨ w1.heap.size ≤ g := by
              have h1 := hg5.size
              rw [World.size_alloc] at h1
              refine ⟨by omega, fun b hb1 hb2 => ?_, fun g hg => ?_⟩
              · rw [hg5.block b (by rw [World.size_alloc]; omega) (fun e => by rcases k23 b e.symm with h | h <;> omega), (below1 (Nat.le_refl _) _ : Below w4.heap.size w4 _).block b (by omega), hb4.block b (by omega)]
                exact k22 b hb1 hb2
              · have hg' : g6 = g := by injection hg
                subst hg'
                rcases hat5 with h | h
                · exact k23 _ h
                · right; omega
            have hm5 : (its2 ++ [(((k : Int) :: p5, some ⟨g4, 0, none⟩, cap4) : Ip)]).map (·.1) = its.map (·.1) ++ (l[k].poss.take (q + 1)).map ((k : Int) :: ·) := by
              rw [List.map_append, HM2.out, List.take_add, List.map_append, ← hpq, List.append_assoc]; rfl
            have hg5l : g5 < wr.heap.size := (hrow5q.lt g5 rfl).2
            have HK := Lib.hid hk5; clear hk5
            have HBB := Lib.hid hb5; clear hb5
            have HMM := Lib.hid hm5; clear hm5
            have HRR := Lib.hid hrow5'; clear hrow5'
            clear hg5 hat5 hs4 hml hrow4 hI hg41 hg42 hv4 hb4 own4 hg4 hb3 own3 hpl hpl2 hpq hp5 hq1 hq2 hq3 hbq1 hbq2 hrow5q k21 k22 k23 HK2 HB2 HM2 HR2 HL2
            go_wp2_with (at_builtin; first
              | (refine wpList_run_append rfl _ _ rfl rfl rfl hap1 ?_)
              | (refine wpList_run_append rfl _ _ rfl rfl rfl hap2 ?_))
            go_roundw
            case rel => exact ⟨q + 1, its2.length + 1, c6, _, _, by omega, by go_num, rfl, Lib.hid (by simp), HRR.out, HMM.out, HBB.out, HK.out⟩
            case measure => simp [intOf]; omega
          · obtain rfl : q = its5.length := by omega
            have hm : its2.map (·.1) = [] :: Tm.posss (l.take (k + 1)) 0 := by
              have h5 : its5.length = l[k].poss.length := by rw [HL5.out, Tm.poss_length]
              rw [HM2.out, HM.out, h5, List.take_length, Tm.posss_take_succ l 0 k hlt, List.cons_append, Nat.zero_add]
            have HMM := Lib.hid hm; clear hm
            go_wp2_with fail
            go_roundw
            case rel => exact ⟨k + 1, m2, c2, A2, its2, by omega, by go_num, rfl, HL2, HR2.out, HMM.out, HB2.out⟩
            case measure => simp [intOf]; omega
      · obtain rfl : k = l.length := by omega
        have hm : its.map (·.1) = (Tm.mk tk tn ts l).poss := by rw [HM.out, List.take_length, Tm.poss]
        have HMM := Lib.hid hm; clear hm
        have HBWW := Lib.hid hbww; clear hbww
        go_wp2_with fail
        go_ret
        exact ⟨_, its, rfl, HR.out.loosen (by omega) (fun b h => by omega), HBWW.out, HMM.out⟩
end Go.Proofs.YtbgkabgbgbebaaaDoor
