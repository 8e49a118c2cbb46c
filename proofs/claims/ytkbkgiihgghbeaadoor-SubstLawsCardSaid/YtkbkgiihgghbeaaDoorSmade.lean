/- The reference's Made. -/
import Derived.Test.YtkbkgiihgghbeaaDoorSgrown
namespace Go.Proofs.YtkbkgiihgghbeaaDoor
open Go.RowKit Go.Sort

def stg1 (lX : List Nat) : List Bd := if lX.length = 0 then [] else bindR [] (.mk 1 ⟨#[120]⟩ 0 []) (growN lX)
def stg2 (lX lY : List Nat) : List Bd := if lY.length = 0 then stg1 lX else bindR (stg1 lX) (.mk 1 ⟨#[121]⟩ 0 []) (growN lY)
def stg3 (lX lY lZ : List Nat) : List Bd := if lZ.length = 0 then stg2 lX lY else bindR (stg2 lX lY) (.mk 1 ⟨#[122]⟩ 0 []) (growN lZ)
def stage (lX lY lZ : List Nat) : Nat → List Bd
  | 0 => []
  | 1 => stg1 lX
  | 2 => stg2 lX lY
  | _ => stg3 lX lY lZ
def vN : Tm := .mk 1 ⟨#[110]⟩ 2 []
def madeE (lX lY lZ : List Nat) (n : Nat) : List Bd :=
  if n % 3 = 1 then bindR (stage lX lY lZ 3) vN (.mk 2 ⟨#[109]⟩ 2 []) else if n % 3 = 2 then bindR (stage lX lY lZ 3) vN (.mk 1 ⟨#[107]⟩ 2 []) else stage lX lY lZ 3
theorem bindR_length (s : List Bd) (x t : Tm) : (bindR s x t).length ≤ s.length + 1 := by
  unfold bindR
  split
  · omega
  · rw [(insB_perm _ _).length_eq]; simp
theorem bindR_size {s : List Bd} {x t : Tm} (h : SizeB s) (hx : x.size ≤ 1000000) (ht : t.size ≤ 1000000) : SizeB (bindR s x t) := by
  unfold bindR
  split
  · exact h
  · intro b hb
    rcases List.mem_cons.1 ((insB_perm _ _).mem_iff.1 hb) with rfl | hb
    · exact ⟨hx, ht⟩
    · exact h b hb
theorem stg1_size (lX : List Nat) : SizeB (stg1 lX) ∧ (stg1 lX).length ≤ 1 := by
  have := growN_size lX
  have h0 : SizeB [] := fun b hb => by simp at hb
  unfold stg1
  split
  · exact ⟨h0, by simp⟩
  · exact ⟨bindR_size h0 (by decide) (by omega), Nat.le_trans (bindR_length _ _ _) (by simp)⟩
theorem stg2_size (lX lY : List Nat) : SizeB (stg2 lX lY) ∧ (stg2 lX lY).length ≤ 2 := by
  have := growN_size lY
  have h0 := stg1_size lX
  unfold stg2
  split
  · exact ⟨h0.1, by omega⟩
  · exact ⟨bindR_size h0.1 (by decide) (by omega), Nat.le_trans (bindR_length _ _ _) (by omega)⟩
theorem stg3_size (lX lY lZ : List Nat) : SizeB (stg3 lX lY lZ) ∧ (stg3 lX lY lZ).length ≤ 3 := by
  have := growN_size lZ
  have h0 := stg2_size lX lY
  unfold stg3
  split
  · exact ⟨h0.1, by omega⟩
  · exact ⟨bindR_size h0.1 (by decide) (by omega), Nat.le_trans (bindR_length _ _ _) (by omega)⟩
theorem stage_size (lX lY lZ : List Nat) (k : Nat) : SizeB (stage lX lY lZ k) ∧ (stage lX lY lZ k).length ≤ 3 := by
  unfold stage
  split
  · exact ⟨fun b hb => by simp at hb, by simp⟩
  · have := stg1_size lX; exact ⟨this.1, by omega⟩
  · have := stg2_size lX lY; exact ⟨this.1, by omega⟩
  · exact stg3_size lX lY lZ
theorem madeE_size (lX lY lZ : List Nat) (n : Nat) : SizeB (madeE lX lY lZ n) ∧ (madeE lX lY lZ n).length ≤ 4 := by
  obtain ⟨h1, h2⟩ := stage_size lX lY lZ 3
  unfold madeE
  split
  · exact ⟨bindR_size h1 (by decide) (by decide), Nat.le_trans (bindR_length _ _ _) (by omega)⟩
  · split
    · exact ⟨bindR_size h1 (by decide) (by decide), Nat.le_trans (bindR_length _ _ _) (by omega)⟩
    · exact ⟨h1, by omega⟩

theorem draft_at {W : World} {B : Nat} {a b c d : Value} {T : TypeId} (h : W.heap[B]? = some (.cells #[a, b, c, d] T (0, 0))) :
    W.cell? ⟨B, 0, none⟩ = some a ∧ W.cell? ⟨B, 1, none⟩ = some b ∧ W.cell? ⟨B, 2, none⟩ = some c ∧ W.cell? ⟨B, 3, none⟩ = some d := by
  refine ⟨?_, ?_, ?_, ?_⟩ <;> simp [World.cell?, h]
set_option maxHeartbeats 2000000 in
set_option maxRecDepth 100000 in
theorem made_any (lX lY lZ : List Nat) (n : Nat) (X Y Z : Option Addr) (cx cy cz : Nat) (w : World) (hn : n < 256) (hx : RepU w (fun b => b < w.heap.size) lX X cx) (hy : RepU w (fun b => b < w.heap.size) lY Y cy) (hz : RepU w (fun b => b < w.heap.size) lZ Z cz) :
    Calls Tryd.prog 20 #[.agg #[.slice X lX.length cx, .slice Y lY.length cy, .slice Z lZ.length cz, .int .u8 n]] w fun e w' => ∃ A c, e = .returned (.slice A (madeE lX lY lZ n).length c) ∧ RepB w' (fun b => b < w'.heap.size) (madeE lX lY lZ n) A c ∧ Below w.heap.size w w' := by
  have mixed : Tryd.prog.follows .mixedOrders = true := by kernel_rfl
  obtain ⟨r, hr⟩ : ∃ r, r = madeE lX lY lZ n := ⟨_, rfl⟩
  rw [← hr]
  have HRM := Lib.hid hr; clear hr
  have lx := hx.1
  have lx2 := hx.2.1
  have ly := hy.1
  have ly2 := hy.2.1
  have lz := hz.1
  have lz2 := hz.2.1
  unfold maxLen at lx2 ly2 lz2
  have k1 : IntKind.i64.wrap 1 = 1 := by rfl
  have k2 : IntKind.i64.wrap 2 = 2 := by rfl
  have k3 : IntKind.i64.wrap 3 = 3 := by rfl
  have e0 := ex0
  have e1 := ex1
  have e2 := ex2
  have HRX := Lib.hid hx; clear hx
  have HRY := Lib.hid hy; clear hy
  have HRZ := Lib.hid hz; clear hz
  obtain ⟨W1, hW1⟩ : ∃ V, V = (w.alloc (.cells #[.slice X lX.length cx, .slice Y lY.length cy, .slice Z lZ.length cz, .int .u8 n] 38)).alloc (.cells #[.slice X lX.length cx, .slice Y lY.length cy, .slice Z lZ.length cz] 36) := ⟨_, rfl⟩
  have hbw : Below w.heap.size w W1 := by rw [hW1]; exact (below1 (Nat.le_refl _) _).alloc (by simp) _
  have hs1 : W1.heap.size = w.heap.size + 2 := by rw [hW1]; simp
  have hx1 : W1.heap[w.heap.size]? = some (.cells #[.slice X lX.length cx, .slice Y lY.length cy, .slice Z lZ.length cz, .int .u8 n] 38 (0, 0)) := by
    rw [hW1, Below.heap_alloc _ _ _ (by simp)]; exact heap_alloc_new _ _
  have hx2 : W1.heap[w.heap.size + 1]? = some (.cells #[.slice X lX.length cx, .slice Y lY.length cy, .slice Z lZ.length cz] 36 (0, 0)) := by
    rw [hW1]
    have h := heap_alloc_new (w.alloc (.cells #[.slice X lX.length cx, .slice Y lY.length cy, .slice Z lZ.length cz, .int .u8 n] 38)) (.cells #[.slice X lX.length cx, .slice Y lY.length cy, .slice Z lZ.length cz] 36)
    rw [World.size_alloc] at h; exact h
  have HW := Lib.hid hW1; clear hW1
  have HBW0 := Lib.hid hbw; clear hbw
  have HS1 := Lib.hid hs1; clear hs1
  have HX1 := Lib.hid hx1; clear hx1
  have HX2 := Lib.hid hx2; clear hx2
  go_enter Tryd.func20, Tryd.ntmps20
  go_wp2_with fail
  rw [← HW.out]
  go_loopw [3, 5] (fun v i wr => ∃ k : Nat, k ≤ 3 ∧ i = .int .i64 k ∧ (∃ (m c : Nat) (A : Option Addr), v = .slice A m c ∧ Hid (m = (stage lX lY lZ k).length) ∧ Hid (RepB wr (fun b => b < wr.heap.size) (stage lX lY lZ k) A c)) ∧ Hid (Below w.heap.size w wr) ∧ Hid (Below W1.heap.size W1 wr)) (fun _ i _ => 3 - (intOf i).toNat)
  case atStart => exact ⟨0, by decide, rfl, ⟨0, 0, none, rfl, rfl, ⟨Nat.le_refl _, by simp [maxLen], .inl rfl⟩⟩, HBW0, Below.refl _ _⟩
  case round =>
    obtain ⟨k, hk, rfl, ⟨m, c0, A0, rfl, HM, HROW⟩, HBW, HW1⟩ := hrel
    have hws := HBW.out.size
    have hw1s := HW1.out.size
    rw [HS1.out] at hw1s
    have hqq := (HW1.out.block (w.heap.size + 1) (by have := HS1.out; omega)).trans HX2.out
    have q0 : wr.cell? ⟨w.heap.size + 1, 0, none⟩ = some (.slice X lX.length cx) := by unfold World.cell?; rw [hqq]; rfl
    have q1 : wr.cell? ⟨w.heap.size + 1, 1, none⟩ = some (.slice Y lY.length cy) := by unfold World.cell?; rw [hqq]; rfl
    have q2 : wr.cell? ⟨w.heap.size + 1, 2, none⟩ = some (.slice Z lZ.length cz) := by unfold World.cell?; rw [hqq]; rfl
    match k, hk with
    | 0, _ =>
      rw [show ((0 : Nat) : Int) = (0 : Int) from rfl]
      have hl : ∀ W, Below w.heap.size w W → RepU W (fun b => b < W.heap.size) lX X cx := fun W h => HRX.out.go h h.size
      by_cases h0 : lX.length = 0
      · have hb0 : decide (0 < lX.length) = false := decide_eq_false (by omega)
        have HST : Hid (stage lX lY lZ 1 = stage lX lY lZ 0) := by show stg1 lX = _; unfold stg1; rw [if_pos h0]; try rfl
        have HH := Lib.hid h0; clear h0 hl
        go_wp2_with fail
        go_roundw
        case rel => exact ⟨1, by decide, rfl, ⟨m, c0, A0, rfl, HM.out.trans (congrArg List.length HST.out.symm), by rw [HST.out]; exact HROW.out⟩, HBW, HW1⟩
        case measure => simp [intOf]
      · have hb0 : decide (0 < lX.length) = true := decide_eq_true (by omega)
        have HST : Hid (stage lX lY lZ 1 = bindR (stage lX lY lZ 0) (.mk 1 ⟨#[120]⟩ 0 []) (growN lX)) := by show stg1 lX = _; unfold stg1; rw [if_neg h0]; try rfl
        have HH := Lib.hid h0; clear h0
        obtain ⟨hsz, hsl⟩ := stage_size lX lY lZ 0
        have hgs := growN_size lX
        have GR := fun W h => grown_any lX X cx W (hl W h)
        have BD := fun (A1 : Option Addr) (c1 : Nat) (W : World) (hW : Below wr.heap.size wr W) (hr : RepT W W.heap.size (growN lX) A1 c1) => rbind_any (stage lX lY lZ 0) A0 c0 (.mk 1 ⟨#[120]⟩ 0 []) (growN lX) none 0 A1 c1 W hsz (by omega) (by decide) (by omega)
          (HROW.out.go hW hW.size) (rep_leaf _ _ _ (by decide)) hr
        rw [← HST.out, ← HM.out] at BD
        generalize growN lX = gx at *
        have GR := Lib.hid GR
        have BD := Lib.hid BD
        clear hl hsz hsl hgs
        dsimp only [Tm.val, Tm.kind, Tm.name, Tm.sort, Tm.kids, List.length_nil] at BD
        go_wp2_with fail
        refine wp_region_mix (fun Y => Below wr.drew.heap.size wr.drew Y) 12 (.held 0 (.held 1 (.held 2 (.held 3 (.held 4 (.held 6 (.held 7 (.held 8 (.held 9 (.op 5 (.op 10 (.op 11 (.op 12 .nil))))))))))))) mixed (by kernel_rfl) ?_
        have HDW : Hid (∀ Y, Below wr.drew.heap.size wr.drew Y → Below wr.heap.size wr Y) := fun Y hY => (Below.refl _ _).drew.trans hY
        refine mix_take (v := .slice A0 m c0) rfl rfl (fun _ _ _ h => h) (Below.refl _ _) (fun Y hY => by (try simp only [Act.put]); go_simp) ?_
        refine mix_take (v := .int .i64 0) rfl rfl (fun _ _ _ h => h) (Below.refl _ _) (fun Y hY => by (try simp only [Act.put]); go_simp) ?_
        refine mix_take (v := .int .i64 0) rfl rfl (fun _ _ _ h => h) (Below.refl _ _) (fun Y hY => by (try simp only [Act.put]); go_simp) ?_
        refine mix_take (v := .int .i64 1) rfl rfl (fun _ _ _ h => h) (Below.refl _ _) (fun Y hY => by (try simp only [Act.put]); go_simp) ?_
        refine mix_take (v := .string ⟨#[120]⟩) rfl rfl (fun _ _ _ h => h) (Below.refl _ _) (fun Y hY => by (try simp only [Act.put]); go_simp) ?_
        refine mix_take (v := .slice (some ⟨w.heap.size + 1, 0, none⟩) 3 3) rfl rfl (fun _ _ _ h => h) (Below.refl _ _) (fun Y hY => by (try simp only [Act.put]); go_simp) ?_
        refine mix_take (v := .int .i64 0) rfl rfl (fun _ _ _ h => h) (Below.refl _ _) (fun Y hY => by (try simp only [Act.put]); go_simp) ?_
        refine mix_take (v := .pointer (some ⟨w.heap.size + 1, 0, none⟩)) rfl rfl (fun _ _ _ h => h) (Below.refl _ _) (fun Y hY => by (try simp only [Act.put]); go_simp) ?_
        refine mix_take (v := .slice X lX.length cx) rfl rfl (fun _ _ _ h => h) (Below.refl _ _) (fun Y hY => by
          have z := ((HDW.out Y hY).cell (p := ⟨w.heap.size + 1, 0, none⟩) (by show w.heap.size + 1 < _; omega)).trans q0
          (try simp only [Act.put]); go_simp) ?_
        simp only [Act.put, List.setIfInBounds_toArray]
        refine mix_op rfl rfl (fun K hK => ?_)
        go_wp2_with fail
        refine (var_any ⟨#[120]⟩ 0 _).mono ?_
        rintro e w4 ⟨rfl, hl4⟩
        refine hK _ _ ⟨fun _ => hl4.below, ?_⟩; clear hK K
        have HB4 := Lib.hid hl4.below; clear hl4
        dsimp only [Tm.val, Tm.kind, Tm.name, Tm.sort, Tm.kids, List.length_nil]
        refine mix_op rfl rfl (fun K hK => ?_)
        go_wp2_with fail
        refine (GR.out w4 (HBW.out.trans ((HDW.out _ HB4.out).mono hws))).mono ?_; clear GR
        rintro e w5 ⟨A5, c5, rfl, hr5, hb5⟩
        have hb45 := below_then HB4.out hb5 HB4.out.size
        refine hK _ _ ⟨fun _ => hb45, ?_⟩; clear hK K
        have BD := Lib.hid (BD.out A5 c5 w5 (HDW.out _ hb45) (RepP.mono (fun b h => h.2) (fun _ _ => rfl) _ _ _ hr5))
        have HB5 := Lib.hid hb45; clear hb45 hb5 hr5 HB4
        simp only [Tm.val] at BD ⊢
        refine mix_op rfl rfl (fun K hK => ?_)
        go_wp2_with fail
        refine BD.out.mono ?_; clear BD
        rintro e w6 ⟨A6, c6, rfl, hr6, hb6⟩
        have hb46 := below_then HB5.out hb6 HB5.out.size
        refine hK _ _ ⟨fun _ => hb46, ?_⟩; clear hK K
        have HR6 := Lib.hid hr6; clear hr6
        have HB6 := Lib.hid (HDW.out _ hb46); clear hb46 hb6 HB5
        refine mix_op rfl rfl (fun K hK => ?_)
        go_wp2_with fail
        refine ⟨fun h => absurd h (by decide), mix_nil ?_⟩
        go_wp2_with fail
        go_roundw
        case rel => exact ⟨1, by decide, rfl, ⟨_, c6, A6, rfl, rfl, HR6.out⟩, HBW.out.trans (HB6.out.mono hws), HW1.out.trans (HB6.out.mono (by have := HS1.out; omega))⟩
        case measure => simp [intOf]
    | 1, _ =>
      rw [show ((1 : Nat) : Int) = (1 : Int) from rfl]
      have hl : ∀ W, Below w.heap.size w W → RepU W (fun b => b < W.heap.size) lY Y cy := fun W h => HRY.out.go h h.size
      by_cases h0 : lY.length = 0
      · have hb0 : decide (0 < lY.length) = false := decide_eq_false (by omega)
        have HST : Hid (stage lX lY lZ 2 = stage lX lY lZ 1) := by show stg2 lX lY = _; unfold stg2; rw [if_pos h0]; try rfl
        have HH := Lib.hid h0; clear h0 hl
        go_wp2_with fail
        go_roundw
        case rel => exact ⟨2, by decide, rfl, ⟨m, c0, A0, rfl, HM.out.trans (congrArg List.length HST.out.symm), by rw [HST.out]; exact HROW.out⟩, HBW, HW1⟩
        case measure => simp [intOf]
      · have hb0 : decide (0 < lY.length) = true := decide_eq_true (by omega)
        have HST : Hid (stage lX lY lZ 2 = bindR (stage lX lY lZ 1) (.mk 1 ⟨#[121]⟩ 0 []) (growN lY)) := by show stg2 lX lY = _; unfold stg2; rw [if_neg h0]; try rfl
        have HH := Lib.hid h0; clear h0
        obtain ⟨hsz, hsl⟩ := stage_size lX lY lZ 1
        have hgs := growN_size lY
        have GR := fun W h => grown_any lY Y cy W (hl W h)
        have BD := fun (A1 : Option Addr) (c1 : Nat) (W : World) (hW : Below wr.heap.size wr W) (hr : RepT W W.heap.size (growN lY) A1 c1) => rbind_any (stage lX lY lZ 1) A0 c0 (.mk 1 ⟨#[121]⟩ 0 []) (growN lY) none 0 A1 c1 W hsz (by omega) (by decide) (by omega)
          (HROW.out.go hW hW.size) (rep_leaf _ _ _ (by decide)) hr
        rw [← HST.out, ← HM.out] at BD
        generalize growN lY = gx at *
        have GR := Lib.hid GR
        have BD := Lib.hid BD
        clear hl hsz hsl hgs
        dsimp only [Tm.val, Tm.kind, Tm.name, Tm.sort, Tm.kids, List.length_nil] at BD
        go_wp2_with fail
        refine wp_region_mix (fun Y => Below wr.drew.heap.size wr.drew Y) 12 (.held 0 (.held 1 (.held 2 (.held 3 (.held 4 (.held 6 (.held 7 (.held 8 (.held 9 (.op 5 (.op 10 (.op 11 (.op 12 .nil))))))))))))) mixed (by kernel_rfl) ?_
        have HDW : Hid (∀ Y, Below wr.drew.heap.size wr.drew Y → Below wr.heap.size wr Y) := fun Y hY => (Below.refl _ _).drew.trans hY
        refine mix_take (v := .slice A0 m c0) rfl rfl (fun _ _ _ h => h) (Below.refl _ _) (fun Y hY => by (try simp only [Act.put]); go_simp) ?_
        refine mix_take (v := .int .i64 1) rfl rfl (fun _ _ _ h => h) (Below.refl _ _) (fun Y hY => by (try simp only [Act.put]); go_simp) ?_
        refine mix_take (v := .int .i64 1) rfl rfl (fun _ _ _ h => h) (Below.refl _ _) (fun Y hY => by (try simp only [Act.put]); go_simp) ?_
        refine mix_take (v := .int .i64 2) rfl rfl (fun _ _ _ h => h) (Below.refl _ _) (fun Y hY => by (try simp only [Act.put]); go_simp) ?_
        refine mix_take (v := .string ⟨#[121]⟩) rfl rfl (fun _ _ _ h => h) (Below.refl _ _) (fun Y hY => by (try simp only [Act.put]); go_simp) ?_
        refine mix_take (v := .slice (some ⟨w.heap.size + 1, 0, none⟩) 3 3) rfl rfl (fun _ _ _ h => h) (Below.refl _ _) (fun Y hY => by (try simp only [Act.put]); go_simp) ?_
        refine mix_take (v := .int .i64 1) rfl rfl (fun _ _ _ h => h) (Below.refl _ _) (fun Y hY => by (try simp only [Act.put]); go_simp) ?_
        refine mix_take (v := .pointer (some ⟨w.heap.size + 1, 1, none⟩)) rfl rfl (fun _ _ _ h => h) (Below.refl _ _) (fun Y hY => by (try simp only [Act.put]); go_simp) ?_
        refine mix_take (v := .slice Y lY.length cy) rfl rfl (fun _ _ _ h => h) (Below.refl _ _) (fun Y hY => by
          have z := ((HDW.out Y hY).cell (p := ⟨w.heap.size + 1, 1, none⟩) (by show w.heap.size + 1 < _; omega)).trans q1
          (try simp only [Act.put]); go_simp) ?_
        simp only [Act.put, List.setIfInBounds_toArray]
        refine mix_op rfl rfl (fun K hK => ?_)
        go_wp2_with fail
        refine (var_any ⟨#[121]⟩ 0 _).mono ?_
        rintro e w4 ⟨rfl, hl4⟩
        refine hK _ _ ⟨fun _ => hl4.below, ?_⟩; clear hK K
        have HB4 := Lib.hid hl4.below; clear hl4
        dsimp only [Tm.val, Tm.kind, Tm.name, Tm.sort, Tm.kids, List.length_nil]
        refine mix_op rfl rfl (fun K hK => ?_)
        go_wp2_with fail
        refine (GR.out w4 (HBW.out.trans ((HDW.out _ HB4.out).mono hws))).mono ?_; clear GR
        rintro e w5 ⟨A5, c5, rfl, hr5, hb5⟩
        have hb45 := below_then HB4.out hb5 HB4.out.size
        refine hK _ _ ⟨fun _ => hb45, ?_⟩; clear hK K
        have BD := Lib.hid (BD.out A5 c5 w5 (HDW.out _ hb45) (RepP.mono (fun b h => h.2) (fun _ _ => rfl) _ _ _ hr5))
        have HB5 := Lib.hid hb45; clear hb45 hb5 hr5 HB4
        simp only [Tm.val] at BD ⊢
        refine mix_op rfl rfl (fun K hK => ?_)
        go_wp2_with fail
        refine BD.out.mono ?_; clear BD
        rintro e w6 ⟨A6, c6, rfl, hr6, hb6⟩
        have hb46 := below_then HB5.out hb6 HB5.out.size
        refine hK _ _ ⟨fun _ => hb46, ?_⟩; clear hK K
        have HR6 := Lib.hid hr6; clear hr6
        have HB6 := Lib.hid (HDW.out _ hb46); clear hb46 hb6 HB5
        refine mix_op rfl rfl (fun K hK => ?_)
        go_wp2_with fail
        refine ⟨fun h => absurd h (by decide), mix_nil ?_⟩
        go_wp2_with fail
        go_roundw
        case rel => exact ⟨2, by decide, rfl, ⟨_, c6, A6, rfl, rfl, HR6.out⟩, HBW.out.trans (HB6.out.mono hws), HW1.out.trans (HB6.out.mono (by have := HS1.out; omega))⟩
        case measure => simp [intOf]
    | 2, _ =>
      rw [show ((2 : Nat) : Int) = (2 : Int) from rfl]
      have hl : ∀ W, Below w.heap.size w W → RepU W (fun b => b < W.heap.size) lZ Z cz := fun W h => HRZ.out.go h h.size
      by_cases h0 : lZ.length = 0
      · have hb0 : decide (0 < lZ.length) = false := decide_eq_false (by omega)
        have HST : Hid (stage lX lY lZ 3 = stage lX lY lZ 2) := by show stg3 lX lY lZ = _; unfold stg3; rw [if_pos h0]; try rfl
        have HH := Lib.hid h0; clear h0 hl
        go_wp2_with fail
        go_roundw
        case rel => exact ⟨3, by decide, rfl, ⟨m, c0, A0, rfl, HM.out.trans (congrArg List.length HST.out.symm), by rw [HST.out]; exact HROW.out⟩, HBW, HW1⟩
        case measure => simp [intOf]
      · have hb0 : decide (0 < lZ.length) = true := decide_eq_true (by omega)
        have HST : Hid (stage lX lY lZ 3 = bindR (stage lX lY lZ 2) (.mk 1 ⟨#[122]⟩ 0 []) (growN lZ)) := by show stg3 lX lY lZ = _; unfold stg3; rw [if_neg h0]; try rfl
        have HH := Lib.hid h0; clear h0
        obtain ⟨hsz, hsl⟩ := stage_size lX lY lZ 2
        have hgs := growN_size lZ
        have GR := fun W h => grown_any lZ Z cz W (hl W h)
        have BD := fun (A1 : Option Addr) (c1 : Nat) (W : World) (hW : Below wr.heap.size wr W) (hr : RepT W W.heap.size (growN lZ) A1 c1) => rbind_any (stage lX lY lZ 2) A0 c0 (.mk 1 ⟨#[122]⟩ 0 []) (growN lZ) none 0 A1 c1 W hsz (by omega) (by decide) (by omega)
          (HROW.out.go hW hW.size) (rep_leaf _ _ _ (by decide)) hr
        rw [← HST.out, ← HM.out] at BD
        generalize growN lZ = gx at *
        have GR := Lib.hid GR
        have BD := Lib.hid BD
        clear hl hsz hsl hgs
        dsimp only [Tm.val, Tm.kind, Tm.name, Tm.sort, Tm.kids, List.length_nil] at BD
        go_wp2_with fail
        refine wp_region_mix (fun Y => Below wr.drew.heap.size wr.drew Y) 12 (.held 0 (.held 1 (.held 2 (.held 3 (.held 4 (.held 6 (.held 7 (.held 8 (.held 9 (.op 5 (.op 10 (.op 11 (.op 12 .nil))))))))))))) mixed (by kernel_rfl) ?_
        have HDW : Hid (∀ Y, Below wr.drew.heap.size wr.drew Y → Below wr.heap.size wr Y) := fun Y hY => (Below.refl _ _).drew.trans hY
        refine mix_take (v := .slice A0 m c0) rfl rfl (fun _ _ _ h => h) (Below.refl _ _) (fun Y hY => by (try simp only [Act.put]); go_simp) ?_
        refine mix_take (v := .int .i64 2) rfl rfl (fun _ _ _ h => h) (Below.refl _ _) (fun Y hY => by (try simp only [Act.put]); go_simp) ?_
        refine mix_take (v := .int .i64 2) rfl rfl (fun _ _ _ h => h) (Below.refl _ _) (fun Y hY => by (try simp only [Act.put]); go_simp) ?_
        refine mix_take (v := .int .i64 3) rfl rfl (fun _ _ _ h => h) (Below.refl _ _) (fun Y hY => by (try simp only [Act.put]); go_simp) ?_
        refine mix_take (v := .string ⟨#[122]⟩) rfl rfl (fun _ _ _ h => h) (Below.refl _ _) (fun Y hY => by (try simp only [Act.put]); go_simp) ?_
        refine mix_take (v := .slice (some ⟨w.heap.size + 1, 0, none⟩) 3 3) rfl rfl (fun _ _ _ h => h) (Below.refl _ _) (fun Y hY => by (try simp only [Act.put]); go_simp) ?_
        refine mix_take (v := .int .i64 2) rfl rfl (fun _ _ _ h => h) (Below.refl _ _) (fun Y hY => by (try simp only [Act.put]); go_simp) ?_
        refine mix_take (v := .pointer (some ⟨w.heap.size + 1, 2, none⟩)) rfl rfl (fun _ _ _ h => h) (Below.refl _ _) (fun Y hY => by (try simp only [Act.put]); go_simp) ?_
        refine mix_take (v := .slice Z lZ.length cz) rfl rfl (fun _ _ _ h => h) (Below.refl _ _) (fun Y hY => by
          have z := ((HDW.out Y hY).cell (p := ⟨w.heap.size + 1, 2, none⟩) (by show w.heap.size + 1 < _; omega)).trans q2
          (try simp only [Act.put]); go_simp) ?_
        simp only [Act.put, List.setIfInBounds_toArray]
        refine mix_op rfl rfl (fun K hK => ?_)
        go_wp2_with fail
        refine (var_any ⟨#[122]⟩ 0 _).mono ?_
        rintro e w4 ⟨rfl, hl4⟩
        refine hK _ _ ⟨fun _ => hl4.below, ?_⟩; clear hK K
        have HB4 := Lib.hid hl4.below; clear hl4
        dsimp only [Tm.val, Tm.kind, Tm.name, Tm.sort, Tm.kids, List.length_nil]
        refine mix_op rfl rfl (fun K hK => ?_)
        go_wp2_with fail
        refine (GR.out w4 (HBW.out.trans ((HDW.out _ HB4.out).mono hws))).mono ?_; clear GR
        rintro e w5 ⟨A5, c5, rfl, hr5, hb5⟩
        have hb45 := below_then HB4.out hb5 HB4.out.size
        refine hK _ _ ⟨fun _ => hb45, ?_⟩; clear hK K
        have BD := Lib.hid (BD.out A5 c5 w5 (HDW.out _ hb45) (RepP.mono (fun b h => h.2) (fun _ _ => rfl) _ _ _ hr5))
        have HB5 := Lib.hid hb45; clear hb45 hb5 hr5 HB4
        simp only [Tm.val] at BD ⊢
        refine mix_op rfl rfl (fun K hK => ?_)
        go_wp2_with fail
        refine BD.out.mono ?_; clear BD
        rintro e w6 ⟨A6, c6, rfl, hr6, hb6⟩
        have hb46 := below_then HB5.out hb6 HB5.out.size
        refine hK _ _ ⟨fun _ => hb46, ?_⟩; clear hK K
        have HR6 := Lib.hid hr6; clear hr6
        have HB6 := Lib.hid (HDW.out _ hb46); clear hb46 hb6 HB5
        refine mix_op rfl rfl (fun K hK => ?_)
        go_wp2_with fail
        refine ⟨fun h => absurd h (by decide), mix_nil ?_⟩
        go_wp2_with fail
        go_roundw
        case rel => exact ⟨3, by decide, rfl, ⟨_, c6, A6, rfl, rfl, HR6.out⟩, HBW.out.trans (HB6.out.mono hws), HW1.out.trans (HB6.out.mono (by have := HS1.out; omega))⟩
        case measure => simp [intOf]
    | 3, _ =>
      go_wp2_with fail
      obtain ⟨hsz, hsl⟩ := stage_size lX lY lZ 3
      refine (var_any ⟨#[110]⟩ 2 wr).mono ?_
      rintro e w4 ⟨rfl, hl4⟩
      obtain ⟨Xb, hXb⟩ : ∃ V, V = w4.alloc (boxOf vN none 0) := ⟨_, rfl⟩
      have hbx : Below w4.heap.size w4 Xb := by rw [hXb]; exact below1 (Nat.le_refl _) _
      have hvn : BoxT Xb w4.heap.size vN none 0 := by rw [hXb]; exact BoxT.new (rep_leaf _ _ _ (by decide))
      have hwx := below_then hl4.below hbx hl4.below.size
      have hx1' := ((HW1.out.trans (hwx.mono (by have := HS1.out; omega))).block w.heap.size (by have := HS1.out; omega)).trans HX1.out
      have HBX := Lib.hid (HBW.out.trans (hwx.mono hws))
      have BD1 := fun (W : World) (hW : Below Xb.heap.size Xb W) => rbind_any (stage lX lY lZ 3) A0 c0 vN (.mk 2 ⟨#[109]⟩ 2 []) none 0 none 0 W hsz (by omega) (by decide) (by decide)
        (HROW.out.go (below_then hwx hW hwx.size) (by have := hwx.size; have := hW.size; omega)) (rep_leaf _ _ _ (by decide)) (rep_leaf _ _ _ (by decide))
      have BD2 := fun (W : World) (hW : Below Xb.heap.size Xb W) => rbind_any (stage lX lY lZ 3) A0 c0 vN (.mk 1 ⟨#[107]⟩ 2 []) none 0 none 0 W hsz (by omega) (by decide) (by decide)
        (HROW.out.go (below_then hwx hW hwx.size) (by have := hwx.size; have := hW.size; omega)) (rep_leaf _ _ _ (by decide)) (rep_leaf _ _ _ (by decide))
      rw [← HM.out] at BD1 BD2
      have HRX4 := Lib.hid (HROW.out.go hwx hwx.size)
      have HX1 := Lib.hid hx1'; clear hx1'
      have HVN := Lib.hid hvn; clear hvn hwx hl4 hbx
      simp only [boxOf, vN, Tm.kind, Tm.name, Tm.sort, Tm.kids, List.length_nil] at hXb
      have HXE := Lib.hid hXb; clear hXb q0 q1 q2 hqq
      have hn3 : n % 3 < 3 := Nat.mod_lt _ (by decide)
      dsimp only [Tm.val, Tm.kind, Tm.name, Tm.sort, Tm.kids, List.length_nil]
      rcases (show n % 3 = 1 ∨ n % 3 = 2 ∨ n % 3 = 0 by omega) with hm | hm | hm
      · have m3 : (n : Int) % 3 = 1 := by omega
        have hE : r = bindR (stage lX lY lZ 3) vN (.mk 2 ⟨#[109]⟩ 2 []) := by rw [HRM.out]; unfold madeE; rw [if_pos hm]
        rw [← hE] at BD1
        clear hE hm
        have BD := Lib.hid BD1; clear BD1 BD2
        dsimp only [Tm.val, vN, Tm.kind, Tm.name, Tm.sort, Tm.kids, List.length_nil] at BD
        obtain ⟨d0, d1, d2, d3⟩ := draft_at HX1.out
        rw [HXE.out] at d3
        go_wp2_with fail
        rw [← HXE.out]
        clear d0 d1 d2 d3
        refine wp_region_mix (fun Y => Below Xb.drew.heap.size Xb.drew Y) 4 (.held 0 (.held 1 (.op 2 (.op 3 (.op 4 .nil))))) mixed (by kernel_rfl) ?_
        have HDW : Hid (∀ Y, Below Xb.drew.heap.size Xb.drew Y → Below Xb.heap.size Xb Y) := fun Y hY => (Below.refl _ _).drew.trans hY
        refine mix_take (v := .slice A0 m c0) rfl rfl (fun _ _ _ h => h) (Below.refl _ _) (fun Y hY => by (try simp only [Act.put]); go_simp) ?_
        refine mix_take (v := .agg #[.int .i64 1, .string ⟨#[110]⟩, .int .i64 2, .slice none 0 0]) rfl rfl (fun _ _ _ h => h) (Below.refl _ _) (fun Y hY => by
          obtain ⟨z0, z1, z2, z3, -⟩ := box_at (HVN.out.below (HDW.out Y hY)).1
          simp only [vN, Tm.kind, Tm.name, Tm.sort, Tm.kids, List.length_nil] at z0 z1 z2 z3
          (try simp only [Act.put]); go_simp) ?_
        simp only [Act.put, List.setIfInBounds_toArray]
        refine mix_op rfl rfl (fun K hK => ?_)
        go_wp2_with fail
        refine (atom_any ⟨#[109]⟩ 2 _).mono ?_
        rintro e w5 ⟨rfl, hl5⟩
        refine hK _ _ ⟨fun _ => hl5.below, ?_⟩; clear hK K
        have HB5 := Lib.hid (HDW.out _ hl5.below)
        have HD5 := Lib.hid hl5.below; clear hl5
        dsimp only [Tm.val, Tm.kind, Tm.name, Tm.sort, Tm.kids, List.length_nil]
        refine mix_op rfl rfl (fun K hK => ?_)
        go_wp2_with fail
        refine (BD.out w5 HB5.out).mono ?_; clear BD
        rintro e w6 ⟨A6, c6, rfl, hr6, hb6⟩
        refine hK _ _ ⟨fun _ => below_then HD5.out hb6 HD5.out.size, ?_⟩; clear hK K
        have HR6 := Lib.hid hr6; clear hr6
        have HB6 := Lib.hid (below_then HB5.out hb6 HB5.out.size); clear hb6 HB5 HD5
        refine mix_op rfl rfl (fun K hK => ?_)
        go_wp2_with fail
        refine ⟨fun h => absurd h (by decide), mix_nil ?_⟩
        go_wp2_with fail
        go_ret
        exact ⟨A6, c6, rfl, HR6.out, HBX.out.trans (HB6.out.mono HBX.out.size)⟩
      · have m3 : (n : Int) % 3 = 2 := by omega
        have hE : r = bindR (stage lX lY lZ 3) vN (.mk 1 ⟨#[107]⟩ 2 []) := by rw [HRM.out]; unfold madeE; rw [if_neg (by omega), if_pos hm]
        rw [← hE] at BD2
        clear hE hm
        have BD := Lib.hid BD2; clear BD1 BD2
        dsimp only [Tm.val, vN, Tm.kind, Tm.name, Tm.sort, Tm.kids, List.length_nil] at BD
        obtain ⟨d0, d1, d2, d3⟩ := draft_at HX1.out
        rw [HXE.out] at d3
        go_wp2_with fail
        rw [← HXE.out]
        clear d0 d1 d2 d3
        refine wp_region_mix (fun Y => Below Xb.drew.heap.size Xb.drew Y) 4 (.held 0 (.held 1 (.op 2 (.op 3 (.op 4 .nil))))) mixed (by kernel_rfl) ?_
        have HDW : Hid (∀ Y, Below Xb.drew.heap.size Xb.drew Y → Below Xb.heap.size Xb Y) := fun Y hY => (Below.refl _ _).drew.trans hY
        refine mix_take (v := .slice A0 m c0) rfl rfl (fun _ _ _ h => h) (Below.refl _ _) (fun Y hY => by (try simp only [Act.put]); go_simp) ?_
        refine mix_take (v := .agg #[.int .i64 1, .string ⟨#[110]⟩, .int .i64 2, .slice none 0 0]) rfl rfl (fun _ _ _ h => h) (Below.refl _ _) (fun Y hY => by
          obtain ⟨z0, z1, z2, z3, -⟩ := box_at (HVN.out.below (HDW.out Y hY)).1
          simp only [vN, Tm.kind, Tm.name, Tm.sort, Tm.kids, List.length_nil] at z0 z1 z2 z3
          (try simp only [Act.put]); go_simp) ?_
        simp only [Act.put, List.setIfInBounds_toArray]
        refine mix_op rfl rfl (fun K hK => ?_)
        go_wp2_with fail
        refine (var_any ⟨#[107]⟩ 2 _).mono ?_
        rintro e w5 ⟨rfl, hl5⟩
        refine hK _ _ ⟨fun _ => hl5.below, ?_⟩; clear hK K
        have HB5 := Lib.hid (HDW.out _ hl5.below)
        have HD5 := Lib.hid hl5.below; clear hl5
        dsimp only [Tm.val, Tm.kind, Tm.name, Tm.sort, Tm.kids, List.length_nil]
        refine mix_op rfl rfl (fun K hK => ?_)
        go_wp2_with fail
        refine (BD.out w5 HB5.out).mono ?_; clear BD
        rintro e w6 ⟨A6, c6, rfl, hr6, hb6⟩
        refine hK _ _ ⟨fun _ => below_then HD5.out hb6 HD5.out.size, ?_⟩; clear hK K
        have HR6 := Lib.hid hr6; clear hr6
        have HB6 := Lib.hid (below_then HB5.out hb6 HB5.out.size); clear hb6 HB5 HD5
        refine mix_op rfl rfl (fun K hK => ?_)
        go_wp2_with fail
        refine ⟨fun h => absurd h (by decide), mix_nil ?_⟩
        go_wp2_with fail
        go_ret
        exact ⟨A6, c6, rfl, HR6.out, HBX.out.trans (HB6.out.mono HBX.out.size)⟩
      · have m3 : (n : Int) % 3 = 0 := by omega
        have hE : r = stage lX lY lZ 3 := by rw [HRM.out]; unfold madeE; rw [if_neg (by omega), if_neg (by omega)]
        clear HRM
        subst hE
        clear hm BD1 BD2
        obtain ⟨d0, d1, d2, d3⟩ := draft_at HX1.out
        rw [HXE.out] at d3
        go_wp2_with fail
        rw [← HXE.out]
        go_ret
        exact ⟨A0, c0, by rw [← HM.out]; rfl, HRX4.out, HBX.out⟩
end Go.Proofs.YtkbkgiihgghbeaaDoor
