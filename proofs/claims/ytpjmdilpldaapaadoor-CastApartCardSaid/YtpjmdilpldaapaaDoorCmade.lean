/- The reference's Made(2, 4): the chapter's example. -/
import Derived.Test.YtpjmdilpldaapaaDoorCfew
namespace Go.Proofs.YtpjmdilpldaapaaDoor
open Go.RowKit Go.Sort

def sA : ByteArray := ⟨#[97]⟩
def sB : ByteArray := ⟨#[98]⟩
def sI : ByteArray := ⟨#[105]⟩
def MadeOf (w : World) (e : Ending) (w' : World) : Prop :=
  ∃ Aa ca Ab cb, e = .returned (castV [sA, sB, sI] [sI] Aa ca Ab cb) ∧ CastW w' [sA, sB, sI] [sI] Aa ca Ab cb ∧ Below w.heap.size w w'
theorem cast_cells {W : World} {B : Nat} {a b : Value} {T : TypeId} (h : W.heap[B]? = some (.cells #[a, b] T (0, 0))) :
    W.cell? ⟨B, 0, none⟩ = some a ∧ W.cell? ⟨B, 1, none⟩ = some b ∧ ∀ o, W.frozen? ⟨B, o, none⟩ = false := by
  refine ⟨?_, ?_, fun o => ?_⟩ <;> simp [World.cell?, World.frozen?, h]
theorem cast_set1 {W : World} {B : Nat} {a b u : Value} {T : TypeId} (h : W.heap[B]? = some (.cells #[a, b] T (0, 0))) : (W.setCell ⟨B, 1, none⟩ u).heap[B]? = some (.cells #[a, u] T (0, 0)) := by
  simp [World.setCell, Array.getElem?_modify, h]
attribute [local irreducible] wpMix4
set_option maxHeartbeats 4000000 in
set_option maxRecDepth 100000 in
theorem made_any (w : World) : Calls Tryd.prog 38 #[.int .u8 2, .int .u8 4] w (MadeOf w) := by
  have mixed : Tryd.prog.follows .mixedOrders = true := by kernel_rfl
  obtain ⟨W0, hW0⟩ : ∃ W0, W0 = w.alloc (.cells #[.slice none 0 0, .slice none 0 0] 24) := ⟨_, rfl⟩
  obtain ⟨W1, hW1⟩ : ∃ W1, W1 = W0.alloc (.cells #[.string sA, .string sB, .string sI, .string ⟨#[115]⟩] 9) := ⟨_, rfl⟩
  obtain ⟨W2, hW2⟩ : ∃ W2, W2 = W1.alloc (.cells #[] 9) := ⟨_, rfl⟩
  have s0 : W0.heap.size = w.heap.size + 1 := by rw [hW0]; simp
  have s1 : W1.heap.size = w.heap.size + 1 + 1 := by rw [hW1]; simp [s0]
  have b0 : Below w.heap.size w W0 := by rw [hW0]; exact below1 (Nat.le_refl _) _
  have b1 : Below W0.heap.size W0 W1 := by rw [hW1]; exact below1 (Nat.le_refl _) _
  have b2 : Below W1.heap.size W1 W2 := by rw [hW2]; exact below1 (Nat.le_refl _) _
  have hx0 : W0.heap[w.heap.size]? = some (.cells #[.slice none 0 0, .slice none 0 0] 24 (0, 0)) := by rw [hW0]; exact heap_alloc_new _ _
  have hx1 : W1.heap[w.heap.size + 1]? = some (.cells #[.string sA, .string sB, .string sI, .string ⟨#[115]⟩] 9 (0, 0)) := by rw [hW1, ← s0]; exact heap_alloc_new _ _
  have hy1 := (b2.block (w.heap.size + 1) (by omega)).trans hx1
  have hown : W2.ownsRow W1.heap.size 9 1 (.slice (some ⟨W1.heap.size, 0, none⟩) 0 0) 0 [] := by
    rw [hW2]; exact World.ownsRow_made (base := W1.heap.size) (e := 9) (size := 1) W1 #[] 0 (Nat.le_refl _) (by simp [maxLen]) rfl
  have hsrc : RepV W2 (fun _ => True) 1 (strs [sA, sB, sI]) (some ⟨w.heap.size + 1, 0, none⟩) 3 4 := by
    refine ⟨rfl, by omega, by decide, .inr ⟨w.heap.size + 1, 0, rfl, trivial, fun j u hj => ?_⟩⟩
    match j, hj with
    | 0, hj => simp [strs] at hj; subst hj; simp [World.cell?, hy1]
    | 1, hj => simp [strs] at hj; subst hj; simp [World.cell?, hy1]
    | 2, hj => simp [strs] at hj; subst hj; simp [World.cell?, hy1]
    | j + 3, hj => simp [strs] at hj
  obtain ⟨v3, w3, hap3, ho3, hg3⟩ := row_addV slStr hown b2.size hsrc (strs_one _) (by decide) (by decide)
  rw [hW0] at hW1
  rw [hW1] at hW2
  have HW2 := Lib.hid hW2
  rw [s1] at hap3
  rw [hW2] at hap3
  simp only [sA, sB, sI] at hap3
  have hb3 : Below w.heap.size w w3 := b0.trans ((b1.trans ((b2.trans hg3.below).mono (by omega))).mono (by omega))
  have hz0 : w3.heap[w.heap.size]? = some (.cells #[.slice none 0 0, .slice none 0 0] 24 (0, 0)) := by
    rw [(b2.trans hg3.below).block _ (by omega), b1.block _ (by omega)]; exact hx0
  have hz1 : w3.heap[w.heap.size + 1]? = some (.cells #[.string sA, .string sB, .string sI, .string ⟨#[115]⟩] 9 (0, 0)) := by
    rw [(b2.trans hg3.below).block _ (by omega)]; exact hx1
  obtain ⟨A3, c3, hv3, hrep3⟩ := repV_own ho3
  subst hv3
  have hr3 := (hrep3 (fun b => w.heap.size < b ∧ b < w3.heap.size) (fun b h1 h _ => ⟨by omega, h⟩)).toN (l := [sA, sB, sI]) (fun x hx => by
    simp only [List.mem_cons, List.not_mem_nil, or_false] at hx
    rcases hx with rfl | rfl | rfl <;> decide)
  obtain ⟨W4, hW4⟩ : ∃ W4, W4 = w3.alloc (.cells #[.slice A3 (0 + 3) c3, .slice none 0 0] 24) := ⟨_, rfl⟩
  have b4 : Below w3.heap.size w3 W4 := by rw [hW4]; exact below1 (Nat.le_refl _) _
  have hx4 : W4.heap[w3.heap.size]? = some (.cells #[.slice A3 (0 + 3) c3, .slice none 0 0] 24 (0, 0)) := by rw [hW4]; exact heap_alloc_new _ _
  have hz0' := (b4.block _ (Array.getElem?_eq_some_iff.1 hz0).1).trans hz0
  have hz1' := (b4.block _ (Array.getElem?_eq_some_iff.1 hz1).1).trans hz1
  have hls : w.heap.size + 1 < w3.heap.size := (Array.getElem?_eq_some_iff.1 hz1).1
  have HR4 := Lib.hid (RepN.mono (P' := fun b => w.heap.size < b ∧ b < w3.heap.size) (w' := W4) (fun b h => h) (fun p hp => b4.cell hp.2) hr3.2)
  have HB4 := Lib.hid (hb3.trans (b4.mono hb3.size))
  have HX4 := Lib.hid hx4; have HZ0 := Lib.hid hz0'; have HZ1 := Lib.hid hz1'; have HW4 := Lib.hid hW4; have HLS := Lib.hid hls
  have hk0 : W4.cell? ⟨w.heap.size + 1, 2, none⟩ = some (.string sI) := by simp [World.cell?, hz1']
  have hk1 : W4.cell? ⟨w3.heap.size, 1, none⟩ = some (.slice none 0 0) := by simp [World.cell?, hx4]
  have hk2 : W4.cell? ⟨w3.heap.size, 0, none⟩ = some (.slice A3 (0 + 3) c3) := by simp [World.cell?, hx4]
  clear hz0 hz1 hb3 hsrc hown hy1 hx1 hx0 b0 b1 b2 s0 s1 hW0 hW1 hW2 ho3 hg3 hrep3 hr3 b4 hx4 hz0' hz1' hls hW4
  simp only [Nat.zero_add] at hap3 HW4 HX4 hk2
  go_enter Tryd.func38, Tryd.ntmps38
  go_wp2_with (at_builtin; refine wpList_run_append rfl _ _ rfl rfl rfl hap3 ?_)
  rw [← HW4.out]
  clear hap3
  refine wp_loop_rounds 4 ?_
  rw [rounds_succ]
  go_wp2_with fail
  rw [rounds_succ]
  go_wp2_with fail
  rw [rounds_succ]
  go_wp2_with fail
  have HD : Hid (Below W4.heap.size W4 W4.drew) := Lib.hid ((Below.refl _ _).drew)
  have HDS : Hid (W4.drew.heap.size = W4.heap.size) := Lib.hid rfl
  refine wp_region_mix4 (fun Y => Below W4.drew.heap.size W4.drew Y) (fun _ => True) [9] (.held 0 (.held 1 (.held 2 (.held 3 (.held 4 (.held 5 (.op 6 (.op 7 (.held 8 (.op 9 .nil)))))))))) mixed (by kernel_rfl) ?_
  have d0 : W4.drew.cell? ⟨w.heap.size + 1, 2, none⟩ = some (.string sI) := hk0
  have d1 : W4.drew.cell? ⟨w3.heap.size, 1, none⟩ = some (.slice none 0 0) := hk1
  have HX5 : Hid (W4.drew.heap[w3.heap.size]? = some (.cells #[.slice A3 3 c3, .slice none 0 0] 24 (0, 0))) := HX4
  have HZ5 : Hid (W4.drew.heap[w.heap.size]? = some (.cells #[.slice none 0 0, .slice none 0 0] 24 (0, 0))) := HZ0
  clear hk0 hk1 hk2 HZ0 HZ1 HW4
  have HWS : Hid (w3.heap.size < W4.heap.size) := Lib.hid (Array.getElem?_eq_some_iff.1 HX4.out).1
  have HWS2 : Hid (w3.heap.size < W4.drew.heap.size) := Lib.hid (by rw [HDS.out]; exact HWS.out)
  have HR5 := Lib.hid (RepN.mono (P' := fun b => w.heap.size < b ∧ b < w3.heap.size) (w' := W4.drew) (fun b h => h) (fun p hp => HD.out.cell (by have := HWS.out; omega)) HR4.out)
  have HB5 := Lib.hid (HB4.out.trans (HD.out.mono HB4.out.size))
  clear HR4 HB4 HD HDS HX4 HWS
  generalize W4.drew = D at *
  refine mix4_take (v := .pointer (some ⟨w3.heap.size, 1, none⟩)) rfl rfl rfl (fun _ _ _ h => h) (Below.refl _ _) trivial (fun Y hY _ => by
    (try simp only [Act.put]); go_simp) ?_
  refine mix4_take (v := .slice none 0 0) rfl rfl rfl (fun _ _ _ h => h) (Below.refl _ _) trivial (fun Y hY _ => by
    have z1 := (hY.cell (World.block_lt d1)).trans d1
    clear d0 d1 hY
    (try simp only [Act.put]); go_simp) ?_
  refine mix4_take (v := .slice (some ⟨w.heap.size + 1, 0, none⟩) 3 4) rfl rfl rfl (fun _ _ _ h => h) (Below.refl _ _) trivial (fun Y hY _ => by
    (try simp only [Act.put]); go_simp) ?_
  refine mix4_take (v := .int .i64 2) rfl rfl rfl (fun _ _ _ h => h) (Below.refl _ _) trivial (fun Y hY _ => by
    (try simp only [Act.put]); go_simp) ?_
  (try simp only [Act.put, List.setIfInBounds_toArray, List.set_cons_succ, List.set_cons_zero, List.getElem_toArray, List.getElem_cons_succ, List.getElem_cons_zero])
  refine mix4_take (v := .pointer (some ⟨w.heap.size + 1, 2, none⟩)) rfl rfl rfl (fun _ _ _ h => h) (Below.refl _ _) trivial (fun Y hY _ => by
    (try simp only [Act.put]); go_simp) ?_
  refine mix4_take (v := .string sI) rfl rfl rfl (fun _ _ _ h => h) (Below.refl _ _) trivial (fun Y hY _ => by
    have z1 := (hY.cell (World.block_lt d0)).trans d0
    clear d0 d1 hY
    (try simp only [Act.put]); go_simp) ?_
  (try simp only [Act.put, List.setIfInBounds_toArray, List.set_cons_succ, List.set_cons_zero, List.getElem_toArray, List.getElem_cons_succ, List.getElem_cons_zero])
  refine mix4_op rfl rfl (fun K hK => ?_)
  go_wp2_with fail
  refine ⟨⟨fun _ => below1 (Nat.le_refl _) _, trivial⟩, ?_⟩
  (try simp only [Act.put, List.setIfInBounds_toArray, List.set_cons_succ, List.set_cons_zero, List.getElem_toArray, List.getElem_cons_succ, List.getElem_cons_zero])
  obtain ⟨g6, c6, w6, hap6, ho6, hg6⟩ := row_add slStr (World.ownsRow_nil D D.heap.size 9 1) (Nat.le_refl _) [.string sI] rfl (strs_one [sI]) (by omega)
  have HB6 := Lib.hid hg6.below
  have HX6 := Lib.hid ((hg6.below.block _ (Array.getElem?_eq_some_iff.1 HX5.out).1).trans HX5.out)
  have HZ6 := Lib.hid ((hg6.below.block _ (Array.getElem?_eq_some_iff.1 HZ5.out).1).trans HZ5.out)
  have HR6 := Lib.hid (RepN.mono (P' := fun b => w.heap.size < b ∧ b < w3.heap.size) (w' := w6) (fun b h => h) (fun p hp => hg6.below.cell (by have := HWS2.out; omega)) HR5.out)
  obtain ⟨A7, c7, hv7, hrep7⟩ := repV_own ho6
  injection hv7 with hv71 _ hv73
  subst hv71 hv73
  have hr7 := (hrep7 (fun b => w3.heap.size < b ∧ b < w6.heap.size) (fun b h1 h _ => ⟨by have := HWS2.out; omega, h⟩)).toN (l := [sI]) (fun x hx => by rw [List.mem_singleton.1 hx]; decide)
  have HN7 := Lib.hid hr7.2
  have HLS6 : Hid (w.heap.size < w3.heap.size) := Lib.hid (by have := HLS.out; omega)
  clear ho6 hg6 hrep7 hr7 d0 d1
  refine mix4_op rfl rfl (fun K hK => ?_)
  refine wp_run_append (.tmp 29) (.tmp 34) (by rfl) (by rfl) (by rfl) hap6 ?_
  refine hK _ _ ⟨⟨fun _ => HB6.out, trivial⟩, ?_⟩
  clear hK K hap6
  (try simp only [Act.put, List.setIfInBounds_toArray, List.set_cons_succ, List.set_cons_zero, List.getElem_toArray, List.getElem_cons_succ, List.getElem_cons_zero])
  refine mix4_take (v := .pointer (some ⟨w3.heap.size, 1, none⟩)) rfl rfl rfl (fun _ _ _ h => h) HB6.out trivial (fun Y hY _ => by
    (try simp only [Act.put]); go_simp) ?_
  (try simp only [Act.put, List.setIfInBounds_toArray, List.set_cons_succ, List.set_cons_zero, List.getElem_toArray, List.getElem_cons_succ, List.getElem_cons_zero])
  obtain ⟨e0, e1, e2⟩ := cast_cells HX6.out
  refine mix4_op rfl rfl (fun K hK => ?_)
  go_wp2_with fail
  refine ⟨⟨fun h => absurd h (by decide), trivial⟩, ?_⟩
  refine mix4_nil ?_
  obtain ⟨W7, hW7⟩ : ∃ W7, W7 = w6.setCell ⟨w3.heap.size, 1, none⟩ (.slice (some ⟨g6, 0, none⟩) 1 c6) := ⟨_, rfl⟩
  rw [← hW7]
  have hx7 : W7.heap[w3.heap.size]? = some (.cells #[.slice A3 3 c3, .slice (some ⟨g6, 0, none⟩) 1 c6] 24 (0, 0)) := by rw [hW7]; exact cast_set1 HX6.out
  have hz7 : W7.heap[w.heap.size]? = some (.cells #[.slice none 0 0, .slice none 0 0] 24 (0, 0)) := by
    rw [hW7, Below.heap_setCell _ _ _ _ (show w.heap.size ≠ w3.heap.size by have := HLS6.out; omega)]; exact HZ6.out
  have hcell : ∀ p : Addr, p.block ≠ w3.heap.size → W7.cell? p = w6.cell? p := fun p hp => by
    rw [hW7]; exact World.cell?_setCell_other _ _ _ _ (fun e => hp (by rw [← e]))
  have hs7 : W7.heap.size = w6.heap.size := by rw [hW7]; simp [World.setCell]
  have HWS6 : Hid (w3.heap.size < w6.heap.size) := Lib.hid (Array.getElem?_eq_some_iff.1 HX6.out).1
  have hn3 : RepN W7 (fun b => w.heap.size < b ∧ b < w6.heap.size) [sA, sB, sI] A3 c3 := RepN.mono (fun b h => ⟨h.1, by have := HWS6.out; omega⟩) (fun p hp => hcell p (by omega)) HR6.out
  have hn7 : RepN W7 (fun b => w.heap.size < b ∧ b < w6.heap.size) [sI] (some ⟨g6, 0, none⟩) c6 := RepN.mono (fun b h => ⟨by have := HLS6.out; omega, h.2⟩) (fun p hp => hcell p (by omega)) HN7.out
  have hb7 : Below w.heap.size w W7 := by
    rw [hW7]
    exact (HB5.out.trans (HB6.out.mono HB5.out.size)).setCell (by have := HLS6.out; show w.heap.size ≤ w3.heap.size; omega) _
  obtain ⟨k0, k1, -⟩ := cast_cells hx7
  obtain ⟨z0, z1, zf⟩ := cast_cells hz7
  have HN3 := Lib.hid hn3; have HN7' := Lib.hid hn7; have HB7 := Lib.hid hb7; have HS7 := Lib.hid hs7; have HZ7 := Lib.hid hz7
  have HB6S := Lib.hid HB6.out.size
  clear hn3 hn7 hb7 hs7 hcell hx7 hz7 hW7 HX6 HZ6 e0 e1 e2
  go_wp2_with fail
  rw [rounds_succ]
  go_wp2_with fail
  refine bodyPost_ret (v := castV [sA, sB, sI] [sI] A3 c3 (some ⟨g6, 0, none⟩) c6) ?_ rfl ?_
  · simp [results, Tryd.results38, go_sem, z0, z1, castV]
  have hsz : ∀ a b, ((W7.setCell ⟨w.heap.size, 0, none⟩ a).setCell ⟨w.heap.size, 1, none⟩ b).heap.size = w6.heap.size := fun a b => by simp [World.setCell, ← HS7.out]
  have hoth : ∀ a b (p : Addr), p.block ≠ w.heap.size → ((W7.setCell ⟨w.heap.size, 0, none⟩ a).setCell ⟨w.heap.size, 1, none⟩ b).cell? p = W7.cell? p := fun a b p hp => by
    rw [World.cell?_setCell_other _ _ _ _ (fun e => hp (by rw [← e])), World.cell?_setCell_other _ _ _ _ (fun e => hp (by rw [← e]))]
  refine ⟨A3, c3, _, c6, rfl, ⟨RepN.mono (fun b h => by rw [hsz]; exact h.2) (fun p hp => hoth _ _ p (by omega)) HN3.out, RepN.mono (fun b h => by rw [hsz]; exact h.2) (fun p hp => hoth _ _ p (by omega)) HN7'.out⟩, ?_⟩
  exact (HB7.out.setCell (p := ⟨w.heap.size, 0, none⟩) (Nat.le_refl _) _).setCell (p := ⟨w.heap.size, 1, none⟩) (Nat.le_refl _) _
end Go.Proofs.YtpjmdilpldaapaaDoor
