/- The reference's Put. -/
import Derived.Test.YtkbkgiihgghbeaaDoorSrget
namespace Go.Proofs.YtkbkgiihgghbeaaDoor
open Go.RowKit Go.Sort

/-- what a term with new kids stands on: old blocks below B, and blocks that the call laid -/
def Put (B : Nat) (t : Tm) (w : World) (e : Ending) (w' : World) : Prop :=
  ∃ A c, e = .returned (t.val A c) ∧ RepP w' (fun b => b < B ∨ w.heap.size ≤ b ∧ b < w'.heap.size) t A c ∧ Below w.heap.size w w'
def PutRel (B : Nat) (w : World) (tk : Int) (tn : ByteArray) (ts : Int) (l : List Tm) (A : Option Addr) (cap : Nat) (s : List Bd) (k : Nat) (v : Value) (its : List It) (wr : World) : Prop :=
  its.map (·.1) = Tm.puts s (l.take k) ∧ wr.heap[w.heap.size]? = some (.cells #[.int .i64 tk, .string tn, .int .i64 ts, .slice A l.length cap] 30 (0, 0)) ∧
  wr.heap[w.heap.size + 1]? = some (.cells #[.int .i64 0, .string ⟨#[]⟩, .int .i64 0, .slice none 0 0] 30 (0, 0)) ∧
  wr.heap[w.heap.size + 2]? = some (.cells #[.int .i64 tk, .string tn, .int .i64 ts, v] 30 (0, 0)) ∧
  RowT wr (w.heap.size + 3) (fun b => b < B ∨ w.heap.size + 3 ≤ b) v its ∧ Below w.heap.size w wr ∧ w.heap.size + 3 ≤ wr.heap.size

/-- what is old, save a row's own block, reads as it did -/
structure KeepS (wr : World) (v : Value) (Y : World) : Prop where
  cell : ∀ p : Addr, p.block < wr.heap.size → v.ownBlock ≠ some p.block → Y.cell? p = wr.cell? p
theorem put_item {wr X w1 : World} {base B : Nat} {v : Value} {its : List It} {t : Tm} {A : Option Addr} {cap : Nat} {o : Obj} (hrow : RowT wr base (fun b => b < B ∨ base ≤ b) v its)
    (h : RepP w1 (fun b => b < B ∨ X.heap.size ≤ b ∧ b < w1.heap.size) t A cap) (hX : wr.heap.size ≤ X.heap.size) (hX1 : X.heap.size ≤ w1.heap.size) (hb : base ≤ wr.heap.size) (hB : B ≤ base) :
    RepP (w1.alloc o) (fun b => (b < B ∨ base ≤ b) ∧ b < (w1.alloc o).heap.size ∧ v.ownBlock ≠ some b) t A cap := by
  refine RepP.mono ?_ ?_ _ _ _ h
  · rintro b (h1 | ⟨h1, h2⟩)
    · exact ⟨.inl h1, by simp; omega, fun e => by have := (hrow.lt b e).1; omega⟩
    · exact ⟨.inr (by omega), by simp; omega, fun e => by have := (hrow.lt b e).2; omega⟩
  · rintro p (h1 | ⟨h1, h2⟩)
    · exact World.cell?_of_block (Below.heap_alloc _ _ _ (by omega))
    · exact World.cell?_of_block (Below.heap_alloc _ _ _ h2)

set_option maxHeartbeats 4000000 in
set_option maxRecDepth 100000 in
theorem rput_any (B : Nat) (s : List Bd) (S0 : Option Addr) (scap : Nat) (hssz : SizeB s) (n : Nat) : ∀ (t : Tm) (A : Option Addr) (cap : Nat) (w : World), t.size ≤ n → n ≤ 1000000 → B ≤ w.heap.size → RepB w (fun b => b < B) s S0 scap → RepP w (fun b => b < B) t A cap →
    Calls Tryd.prog 52 #[.slice S0 s.length scap, t.val A cap] w (Put B (t.put s) w) := by
  have mixed : Tryd.prog.follows .mixedOrders = true := by kernel_rfl
  induction n with
  | zero => intro t _ _ _ h; have := t.size_pos; omega
  | succ n ih =>
    intro t A cap w hn hb hB hrs hrep
    obtain ⟨tk, tn, ts, l⟩ := t
    have HRS := Lib.hid hrs; clear hrs
    have IH := Lib.hid ih; clear ih
    by_cases hk : tk = 1
    · subst hk
      rw [Tm.put_var s _ rfl]
      have GT := rget_any B s S0 scap (.mk 1 tn ts l) A cap
      have GT := Lib.hid fun (W : World) (hW : Below w.heap.size w W) => GT W hssz (by omega) (by have := hW.size; omega) (RepB.mono (fun _ h => h) (fun p (hp : p.block < B) => hW.cell (by omega)) HRS.out) (RepP.mono (fun _ h => h) (fun p (hp : p.block < B) => hW.cell (by omega)) _ _ _ hrep)
      clear hrep
      simp only [Tm.val, Tm.kind, Tm.name, Tm.sort, Tm.kids] at GT ⊢
      go_enter Tryd.func52, Tryd.ntmps52
      go_wp2_with fail
      have hbV : Below w.heap.size w ((w.alloc (.cells #[.int .i64 1, .string tn, .int .i64 ts, .slice A l.length cap] 30)).alloc (.cells #[.int .i64 0, .string ⟨#[]⟩, .int .i64 0, .slice none 0 0] 30)) :=
        ((Below.refl _ _).alloc (Nat.le_refl _) _).alloc (by simp) _
      refine (GT.out _ hbV).mono ?_
      rintro e w1 ⟨A1, c1, rfl, hr1, hl1⟩
      have hz : w1.heap[w.heap.size + 1]? = some (.cells #[.int .i64 0, .string ⟨#[]⟩, .int .i64 0, .slice none 0 0] 30 (0, 0)) := by
        rw [hl1.below.block _ (by simp)]
        have h := heap_alloc_new (w.alloc (.cells #[.int .i64 1, .string tn, .int .i64 ts, .slice A l.length cap] 30)) (.cells #[.int .i64 0, .string ⟨#[]⟩, .int .i64 0, .slice none 0 0] 30)
        rw [World.size_alloc] at h; exact h
      obtain ⟨b0, b1, b2, b3, bf⟩ := box_at hz
      have HB1 := Lib.hid (below_then hbV hl1.below hbV.size)
      have HR1 := Lib.hid hr1; clear hr1 hl1 hbV hz GT
      generalize getS s (.mk 1 tn ts l) = u at *
      simp only [Tm.val]
      go_wp2_with fail
      refine bodyPost_ret (v := u.val A1 c1) ?_ rfl ?_
      · simp [results, Tryd.results52, go_sem, b0, b1, b2, b3, Tm.val]
      refine ⟨A1, c1, rfl, ?_, ?_⟩
      · exact RepP.mono (fun b hb => .inl hb) (fun _ _ => rfl) _ _ _ (rep_set4 (w := w) (Nat.le_succ _) HR1.out (fun k hk => by show k < w.heap.size; omega))
      · iterate 4 refine Below.setCell ?_ (by show w.heap.size ≤ w.heap.size + 1; omega) _
        exact HB1.out
    rw [Tm.size] at hn
    rw [RepP_mk] at hrep
    obtain ⟨hr1, hr2, hr3, hr4⟩ := hrep
    unfold maxLen at hr1 hr3
    have kq : (tk == 1) = false := by rw [beq_eq_false_iff_ne]; exact hk
    rw [Tm.put_app s tk tn ts l hk]
    clear hk
    simp only [Tm.val, Tm.kind, Tm.name, Tm.sort, Tm.kids]
    go_enter Tryd.func52, Tryd.ntmps52
    go_wp2_with fail
    have hls := Tm.length_le_sizes l
    go_loopw [6] (fun i wr => ∃ (k : Nat) (v : Value) (its : List It), k ≤ l.length ∧ i = .int .i64 k ∧ PutRel B w tk tn ts l A cap s k v its wr) (fun i _ => l.length - (intOf i).toNat)
    case atStart =>
      refine ⟨0, .slice none 0 0, [], Nat.zero_le _, rfl, rfl, ?_, ?_, ?_, RowT.nil _ _ _, (((Below.refl _ _).alloc (Nat.le_refl _) _).alloc (by simp) _).alloc (by simp; omega) _, by simp⟩
      · rw [Below.heap_alloc _ _ _ (by simp; omega), Below.heap_alloc _ _ _ (by simp)]; exact heap_alloc_new _ _
      · rw [Below.heap_alloc _ _ _ (by simp)]
        have h := heap_alloc_new (w.alloc (.cells #[.int .i64 tk, .string tn, .int .i64 ts, .slice A l.length cap] 30)) (.cells #[.int .i64 0, .string ⟨#[]⟩, .int .i64 0, .slice none 0 0] 30)
        rw [World.size_alloc] at h; exact h
      · have h := heap_alloc_new ((w.alloc (.cells #[.int .i64 tk, .string tn, .int .i64 ts, .slice A l.length cap] 30)).alloc (.cells #[.int .i64 0, .string ⟨#[]⟩, .int .i64 0, .slice none 0 0] 30)) (.cells #[.int .i64 tk, .string tn, .int .i64 ts, .slice none 0 0] 30)
        rw [World.size_alloc, World.size_alloc] at h; exact h
    case round =>
      obtain ⟨k, v, its, hk, rfl, hits, hB1, hB2, hB3, hrow, hbel, hsz⟩ := hrel
      obtain ⟨a0, a1, a2, a3, af⟩ := box_at hB1
      obtain ⟨b0, b1, b2, b3, bf⟩ := box_at hB2
      obtain ⟨d0, d1, d2, d3, df⟩ := box_at hB3
      have HB1 := Lib.hid hB1; clear hB1
      have HB2 := Lib.hid hB2; clear hB2
      have HB3 := Lib.hid hB3; clear hB3
      have HITS := Lib.hid hits; clear hits
      have i1 : (0 : Int) ≤ (k : Int) := Int.natCast_nonneg _
      by_cases hlt : k < l.length
      · have i2 : (k : Int) < (l.length : Int) := by omega
        rcases hr4 with rfl | ⟨b, off, rfl, hbB, hl⟩
        · simp at hlt
        have hlr : RepLP wr (fun b => b < B) l b off := RepLP.mono (fun _ h => h) (fun p (hp : p.block < B) => hbel.cell (by omega)) _ _ _ hbB hl
        obtain ⟨A', cap', h0, h1, h2, h3, h5⟩ := hlr.get k hlt
        have hsg := Tm.sizes_get l k hlt
        have HC : Hid (∀ X, Below wr.heap.size wr X → Calls Tryd.prog 52 #[.slice S0 s.length scap, l[k].val A' cap'] X (Put B (l[k].put s) X)) := Lib.hid fun X hX =>
          IH.out l[k] A' cap' X (by omega) (by omega) (by have := hX.size; omega) (RepB.mono (fun _ h => h) (fun p (hp : p.block < B) => (hX.cell (by omega)).trans (hbel.cell (by omega))) HRS.out) (RepP.mono (fun _ h => h) (fun p (hp : p.block < B) => hX.cell (by omega)) _ _ _ h5)
        have hlen : its.length + 1 ≤ 100000000 := by
          have h := congrArg List.length HITS.out
          rw [Tm.puts_length] at h
          simp at h; omega
        have hne1 : v.ownBlock ≠ some w.heap.size := fun e => by have := (hrow.lt _ e).1; omega
        have hne3 : v.ownBlock ≠ some (w.heap.size + 2) := fun e => by have := (hrow.lt _ e).1; omega
        have hneb : v.ownBlock ≠ some b := fun e => by have := (hrow.lt _ e).1; omega
        clear h5 hl hlr bf b0 b1 b2 b3
        simp only [Tm.val] at HC
        go_wp2_with fail
        refine wp_region_mix (KeepS wr v) 11 (.held 0 (.held 1 (.held 2 (.held 3 (.held 4 (.held 5 (.held 6 (.held 7 (.op 8 (.op 9 (.op 10 (.op 11 (.op 12 .nil))))))))))))) mixed (by kernel_rfl) ?_
        have hS0 : KeepS wr v wr.drew := ⟨fun _ _ _ => rfl⟩
        refine mix_take (v := .pointer (some ⟨w.heap.size + 1 + 1, 3, none⟩)) rfl rfl (fun _ _ _ h => h) hS0 (fun Y hY => by (try simp only [Act.put]); go_simp) ?_
        refine mix_take (v := v) rfl rfl (fun _ _ _ h => h) hS0 (fun Y hY => by
          have z := (hY.cell ⟨w.heap.size + 1 + 1, 3, none⟩ (by show w.heap.size + 1 + 1 < _; omega) hne3).trans d3
          (try simp only [Act.put]); go_simp) ?_
        refine mix_take (v := .slice S0 s.length scap) rfl rfl (fun _ _ _ h => h) hS0 (fun Y hY => by (try simp only [Act.put]); go_simp) ?_
        refine mix_take (v := .pointer (some ⟨w.heap.size, 3, none⟩)) rfl rfl (fun _ _ _ h => h) hS0 (fun Y hY => by (try simp only [Act.put]); go_simp) ?_
        refine mix_take (v := .slice (some ⟨b, off, none⟩) l.length cap) rfl rfl (fun _ _ _ h => h) hS0 (fun Y hY => by
          have z := (hY.cell ⟨w.heap.size, 3, none⟩ (by show w.heap.size < _; omega) hne1).trans a3
          (try simp only [Act.put]); go_simp) ?_
        refine mix_take (v := .int .i64 k) rfl rfl (fun _ _ _ h => h) hS0 (fun Y hY => by (try simp only [Act.put]); go_simp) ?_
        refine mix_take (v := .pointer (some ⟨b, off + k * 4, none⟩)) rfl rfl (fun _ _ _ h => h) hS0 (fun Y hY => by (try simp only [Act.put]); go_simp) ?_
        refine mix_take (v := .agg #[.int .i64 l[k].kind, .string l[k].name, .int .i64 l[k].sort, .slice A' l[k].kids.length cap']) rfl rfl (fun _ _ _ h => h) hS0 (fun Y hY => by
          have z0 := (hY.cell ⟨b, off + k * 4, none⟩ (by show b < _; omega) hneb).trans h0
          have z1 := (hY.cell ⟨b, off + k * 4 + 1, none⟩ (by show b < _; omega) hneb).trans h1
          have z2 := (hY.cell ⟨b, off + k * 4 + 2, none⟩ (by show b < _; omega) hneb).trans h2
          have z3 := (hY.cell ⟨b, off + k * 4 + 3, none⟩ (by show b < _; omega) hneb).trans h3
          (try simp only [Act.put]); go_simp) ?_
        simp only [Act.put, List.setIfInBounds_toArray]
        refine mix_op rfl rfl (fun K hK => ?_)
        go_wp2_with fail
        refine (HC.out _ (Below.refl _ _).drew).mono ?_; clear HC
        rintro e w1 ⟨A1, cap1, rfl, hre, hb1⟩
        have hwb1 : Below wr.heap.size wr w1 := (Below.refl _ _).drew.trans hb1
        have hs1 := hwb1.size
        refine hK _ _ ⟨fun _ => ⟨fun p hp _ => hwb1.cell hp⟩, ?_⟩
        clear hK K
        simp only [Tm.val]
        refine mix_op rfl rfl (fun K hK => ?_)
        go_wp2_with fail
        refine ⟨fun _ => ⟨fun p hp _ => (hwb1.alloc hs1 _).cell hp⟩, ?_⟩
        refine mix_op rfl rfl (fun K hK => ?_)
        refine wp_push (by rfl) (.tmp 23) (.tmp 31) (by rfl) (w.heap.size + 3) (fun b => b < B ∨ w.heap.size + 3 ≤ b) v its (by rfl) ((hrow.below hwb1).alloc _) (l[k].put s, A1, cap1) _ _ (0, 0) (by rfl) (by exact heap_alloc_new _ _) (by exact put_item hrow hre (Nat.le_refl _) hb1.size (by omega) (by omega)) hlen (by simp; omega) ?_
        intro g cap2 w2 hrow2 hgr hat hbg
        have hw2s : w1.heap.size + 1 ≤ w2.heap.size := by have := hgr.size; simpa using this
        have hblk : ∀ b, b < wr.heap.size → v.ownBlock ≠ some b → w2.heap[b]? = wr.heap[b]? := fun b hb hne => by
          rw [hgr.block b (by simp; omega) hne.symm, Below.heap_alloc _ _ _ (by omega), hwb1.block b hb]
        refine hK _ _ ⟨fun _ => ⟨fun p hp hne => World.cell?_of_block (hblk _ hp hne)⟩, ?_⟩
        clear hK K
        have hdf : w2.frozen? ⟨w.heap.size + 1 + 1, 3, none⟩ = false := by
          have e := hblk (w.heap.size + 2) (by omega) hne3
          unfold World.frozen?
          rw [show (⟨w.heap.size + 1 + 1, 3, none⟩ : Addr).block = w.heap.size + 2 from rfl, e, HB3.out]; rfl
        have hd3 : w2.cell? ⟨w.heap.size + 1 + 1, 3, none⟩ = some v := (World.cell?_of_block (hblk (w.heap.size + 2) (by omega) hne3)).trans d3
        have HBLK := Lib.hid hblk; clear hblk
        simp only [Act.put, List.setIfInBounds_toArray]
        refine mix_op rfl rfl (fun K hK => ?_)
        go_wp2_with fail
        refine ⟨fun h => absurd h (by decide), ?_⟩
        refine mix_op rfl rfl (fun K hK => ?_)
        go_wp2_with fail
        refine ⟨fun h => absurd h (by decide), ?_⟩
        refine mix_nil ?_
        go_wp2_with fail
        go_roundw
        case rel =>
          refine ⟨k + 1, .slice (some ⟨g, 0, none⟩) (its.length + 1) cap2, its ++ [(l[k].put s, A1, cap1)], by omega, by go_num, ?_, ?_, ?_, ?_, ?_, ?_, ?_⟩
          · rw [List.map_append, HITS.out, Tm.puts_take_succ s l k hlt]; rfl
          · rw [Below.heap_setCell _ _ _ _ (by simp <;> omega)]; exact (HBLK.out _ (by omega) hne1).trans HB1.out
          · rw [Below.heap_setCell _ _ _ _ (by simp <;> omega)]; exact (HBLK.out _ (by omega) (fun e => by have := (hrow.lt _ e).1; omega)).trans HB2.out
          · exact heap_set3 ((HBLK.out _ (by omega) hne3).trans HB3.out)
          · exact hrow2.setCell (by simp; omega) (by simp) _
          · refine Below.setCell ?_ (by simp; omega) _
            exact ((hbel.trans (hwb1.mono (by omega))).alloc (by omega) _).grown hgr (by simp; omega) (fun j e => by have := (hrow.lt _ e).1; omega)
          · simp [World.setCell]; omega
        case measure => simp [intOf]; omega
      · obtain rfl : k = l.length := by omega
        have hmap := HITS.out
        simp only [List.take_length] at hmap
        obtain ⟨Av, cv, rfl, hS⟩ := hrow.toS (P := fun b => b < B ∨ w.heap.size + 3 ≤ b ∧ b < wr.heap.size) (fun b h h' => h.imp id (fun h => ⟨h, h'⟩)) (fun b h h' => .inr ⟨h, h'⟩)
        rw [hmap] at hS
        have hlen2 : its.length = (Tm.puts s l).length := by rw [← hmap]; simp
        have HS := Lib.hid hS; clear hS
        have HLEN := Lib.hid hlen2; clear hlen2 hmap
        have HROW := Lib.hid hrow; clear hrow
        go_wp2_with fail
        refine bodyPost_ret (v := .agg #[.int .i64 tk, .string tn, .int .i64 ts, .slice Av its.length cv]) ?_ rfl ?_
        · simp [results, Tryd.results52, go_sem, b0, b1, b2, b3]
        have hne : ∀ p : Addr, (p.block < B ∨ w.heap.size + 3 ≤ p.block) → ∀ o, (⟨w.heap.size + 1, o, none⟩ : Addr) ≠ p := fun p hp o e => by rw [← e] at hp; simp at hp; omega
        refine ⟨Av, cv, by rw [HLEN.out]; rfl, ?_, ?_⟩
        · rw [RepP_mk]
          refine ⟨by unfold maxLen; omega, RepS.mono ?_ ?_ HS.out⟩
          · rintro b (h | ⟨h, h'⟩)
            · exact .inl h
            · exact .inr ⟨by omega, by simpa [World.setCell] using h'⟩
          · intro p hp
            have hne := hne p (hp.imp id (fun h => h.1))
            rw [World.cell?_setCell_other _ _ _ _ (hne _), World.cell?_setCell_other _ _ _ _ (hne _), World.cell?_setCell_other _ _ _ _ (hne _), World.cell?_setCell_other _ _ _ _ (hne _)]
        · iterate 4 refine Below.setCell ?_ (by simp) _
          exact hbel
end Go.Proofs.YtkbkgiihgghbeaaDoor
