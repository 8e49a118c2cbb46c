/- Urcho (joined by shake.py). -/
import Derived.Test.YtmajbopjaejliaaGreatDoorQ11
import Derived.Test.YtmajbopjaejliaaGreatDoorQ12
namespace Go.Proofs.YtmajbopjaejliaaGreatDoor
open Go.RowKit Go.Sort
theorem fits_yes {x t : Tm} (hx : x.valid = 0) (ht : t.valid = 0) (hk : x.kind = 1) (h : x.sort = 0 ∨ (t.kind ≠ 3 ∧ t.sort = x.sort)) : fits x t = true := by
  unfold fits; simp only [hx, ht, hk]; simpa using h
theorem fits_no {x t : Tm} (h0 : x.sort ≠ 0) (h : ¬ (t.kind ≠ 3 ∧ t.sort = x.sort)) : fits x t = false := by
  unfold fits
  rw [Bool.and_eq_false_iff]
  right
  rw [Bool.or_eq_false_iff]
  refine ⟨by simpa using h0, ?_⟩
  rw [Bool.eq_false_iff]
  intro e
  rw [Bool.and_eq_true, decide_eq_true_iff, decide_eq_true_iff] at e
  exact h e
theorem kinds3 {t : Tm} (h : t.valid = 0) : t.kind = 1 ∨ t.kind = 2 ∨ t.kind = 3 := by
  obtain ⟨k, n, s, l⟩ := t
  rcases checkU (valid_iff.1 h).1 with ⟨h1 | h1, -⟩ | ⟨h1, -, -⟩
  · exact .inl h1
  · exact .inr (.inl h1)
  · exact .inr (.inr h1)
theorem four_set (b : Nat) {Z : World} {x : Tm} {X : Option Addr} {cx : Nat} {p q r s : Value} (h : Z.heap[b]? = some (.cells #[p, q, r, s] 24 (0, 0))) :
    ((((Z.setCell ⟨b, 0, none⟩ (.int .i64 x.kind)).setCell ⟨b, 1, none⟩ (.string x.name)).setCell ⟨b, 2, none⟩ (.int .i64 x.sort)).setCell ⟨b, 3, none⟩ (.slice X x.kids.length cx)).heap[b]? = some (boxT x X cx) := heap_four h
theorem four_oth (b k : Nat) {Z : World} {x : Tm} {X : Option Addr} {cx : Nat} (h : k ≠ b) :
    ((((Z.setCell ⟨b, 0, none⟩ (.int .i64 x.kind)).setCell ⟨b, 1, none⟩ (.string x.name)).setCell ⟨b, 2, none⟩ (.int .i64 x.sort)).setCell ⟨b, 3, none⟩ (.slice X x.kids.length cx)).heap[k]? = Z.heap[k]? := by
  iterate 4 rw [Below.heap_setCell _ _ _ _ h]
theorem four_bel (b B : Nat) {w Z : World} {x : Tm} {X : Option Addr} {cx : Nat} (h : Below B w Z) (hb : B ≤ b) :
    Below B w ((((Z.setCell ⟨b, 0, none⟩ (.int .i64 x.kind)).setCell ⟨b, 1, none⟩ (.string x.name)).setCell ⟨b, 2, none⟩ (.int .i64 x.sort)).setCell ⟨b, 3, none⟩ (.slice X x.kids.length cx)) := by
  iterate 4 refine Below.setCell ?_ (by exact hb) _
  exact h
theorem Four.swap {w Z : World} {x y : Tm} {X Y : Option Addr} {cx cy : Nat} {o3 o4 : Obj} (h : Four w (boxT x X cx) (boxT y Y cy) o3 o4 Z) :
    Four w (boxT y Y cy) (boxT x X cx) o3 o4 ((((((((Z.setCell ⟨w.heap.size, 0, none⟩ (.int .i64 y.kind)).setCell ⟨w.heap.size, 1, none⟩ (.string y.name)).setCell ⟨w.heap.size, 2, none⟩ (.int .i64 y.sort)).setCell ⟨w.heap.size, 3, none⟩ (.slice Y y.kids.length cy)).setCell ⟨w.heap.size + 1, 0, none⟩ (.int .i64 x.kind)).setCell ⟨w.heap.size + 1, 1, none⟩ (.string x.name)).setCell ⟨w.heap.size + 1, 2, none⟩ (.int .i64 x.sort)).setCell ⟨w.heap.size + 1, 3, none⟩ (.slice X x.kids.length cx)) :=
  ⟨(four_oth _ _ (by omega)).trans (four_set _ h.one), four_set _ ((four_oth _ _ (by omega)).trans h.two), (four_oth _ _ (by omega)).trans ((four_oth _ _ (by omega)).trans h.three), (four_oth _ _ (by omega)).trans ((four_oth _ _ (by omega)).trans h.four), four_bel _ _ (four_bel _ _ h.bel (Nat.le_refl _)) (by omega)⟩
theorem Four.res1 {w Z : World} {o1 o2 o4 : Obj} {p q r s : Value} (h : Four w o1 o2 (.cells #[p, q, r, s] 24 (0, 0)) o4 Z) (x : Tm) (X : Option Addr) (cx : Nat) :
    Four w o1 o2 (boxT x X cx) o4 ((((Z.setCell ⟨w.heap.size + 1 + 1, 0, none⟩ (.int .i64 x.kind)).setCell ⟨w.heap.size + 1 + 1, 1, none⟩ (.string x.name)).setCell ⟨w.heap.size + 1 + 1, 2, none⟩ (.int .i64 x.sort)).setCell ⟨w.heap.size + 1 + 1, 3, none⟩ (.slice X x.kids.length cx)) :=
  ⟨(four_oth _ _ (by omega)).trans h.one, (four_oth _ _ (by omega)).trans h.two, four_set _ h.three, (four_oth _ _ (by omega)).trans h.four, four_bel _ _ h.bel (by omega)⟩
theorem Four.res2 {w Z : World} {o1 o2 o3 : Obj} {p q r s : Value} (h : Four w o1 o2 o3 (.cells #[p, q, r, s] 24 (0, 0)) Z) (x : Tm) (X : Option Addr) (cx : Nat) :
    Four w o1 o2 o3 (boxT x X cx) ((((Z.setCell ⟨w.heap.size + 1 + 1 + 1, 0, none⟩ (.int .i64 x.kind)).setCell ⟨w.heap.size + 1 + 1 + 1, 1, none⟩ (.string x.name)).setCell ⟨w.heap.size + 1 + 1 + 1, 2, none⟩ (.int .i64 x.sort)).setCell ⟨w.heap.size + 1 + 1 + 1, 3, none⟩ (.slice X x.kids.length cx)) :=
  ⟨(four_oth _ _ (by omega)).trans h.one, (four_oth _ _ (by omega)).trans h.two, (four_oth _ _ (by omega)).trans h.three, four_set _ h.four, four_bel _ _ h.bel (by omega)⟩
/-- what choose answers -/
def ChoseR (t u : Tm) (A A' : Option Addr) (c c' : Nat) (q : Tm × Tm × Int) (w : World) (e : Ending) (w' : World) : Prop :=
  ∃ x X cx y Y cy, e = .returned (.tuple #[x.val X cx, y.val Y cy, .int .i64 q.2.2]) ∧ ((x = t ∧ X = A ∧ cx = c ∧ y = u ∧ Y = A' ∧ cy = c') ∨ (x = u ∧ X = A' ∧ cx = c' ∧ y = t ∧ Y = A ∧ cy = c)) ∧
    (q.2.2 = 0 → q.1 = x ∧ q.2.1 = y) ∧ Below w.heap.size w w'

set_option maxHeartbeats 1200000 in
set_option maxRecDepth 100000 in
theorem rchoose_any (t u : Tm) (A A' : Option Addr) (c c' : Nat) (w : World) (hvt : t.valid = 0) (hvu : u.valid = 0) (hrt : RepT w w.heap.size t A c) (hru : RepT w w.heap.size u A' c') :
    Calls Tryz.prog 64 #[t.val A c, u.val A' c'] w (ChoseR t u A A' c c' (chooseU t u) w) := by
  have mixed : Tryz.prog.follows .mixedOrders = true := by kernel_rfl
  have ht : t.size ≤ 1000000 := by have := valid_size hvt; omega
  have hu : u.size ≤ 1000000 := by have := valid_size hvu; omega
  obtain ⟨V, hV⟩ : ∃ V, V = (((w.alloc (boxT t A c)).alloc (boxT u A' c')).alloc (.cells #[.int .i64 0, .string ⟨#[]⟩, .int .i64 0, .slice none 0 0] 24)).alloc (.cells #[.int .i64 0, .string ⟨#[]⟩, .int .i64 0, .slice none 0 0] 24) := ⟨_, rfl⟩
  have h4 : Four w (boxT t A c) (boxT u A' c') (.cells #[.int .i64 0, .string ⟨#[]⟩, .int .i64 0, .slice none 0 0] 24 (0, 0)) (.cells #[.int .i64 0, .string ⟨#[]⟩, .int .i64 0, .slice none 0 0] 24 (0, 0)) V := by rw [hV]; exact Four.new _ _ _ _ _ _
  have HRt : Hid (∀ Z, Below w.heap.size w Z → RepT Z Z.heap.size t A c) := Lib.hid fun Z hZ => hrt.go hZ hZ.size
  have HRu : Hid (∀ Z, Below w.heap.size w Z → RepT Z Z.heap.size u A' c') := Lib.hid fun Z hZ => hru.go hZ hZ.size
  clear hrt hru
  have HVT := Lib.hid hvt; clear hvt
  have HVU := Lib.hid hvu; clear hvu
  obtain ⟨q, hq⟩ : ∃ q, q = chooseU t u := ⟨_, rfl⟩
  rw [← hq]
  unfold chooseU at hq
  have HQ := Lib.hid hq; clear hq
  have H4 := Lib.hid h4; clear h4
  obtain ⟨tk, tn, ts, tl⟩ := t
  obtain ⟨uk, un, us, ul⟩ := u
  simp only [boxT, Tm.kind, Tm.name, Tm.sort, Tm.kids] at hV
  have HV := Lib.hid hV; clear hV
  simp only [Tm.val, Tm.kind, Tm.name, Tm.sort, Tm.kids]
  go_enter Tryz.func64, Tryz.ntmps64
  refine wp_seq_k (fun K hK => ?_)
  refine region_cutU (fun a0 a' w' => a' = (((((a0.put (some 2) (.pointer (some ⟨w.heap.size, 0, none⟩))).put (some 3) (.pointer (some ⟨w.heap.size + 1, 0, none⟩))).put (some 4) (.pointer (some ⟨w.heap.size + 1 + 1, 0, none⟩))).put (some 5) (.pointer (some ⟨w.heap.size + 1 + 1 + 1, 0, none⟩))).put (some 6) (.int .i64 0)) ∧ w' = V) ?_ ?_
  · go_wp2_with fail
    exact HV.out.symm
  rintro a' w' ⟨rfl, hw'⟩
  rw [hw']
  clear hw' w'
  refine hK _ _ ?_
  clear hK K HV
  rcases eq_facts tk 1 with ⟨kt, kt1, kt2⟩ | ⟨kt, kt1, kt2⟩ <;> rcases eq_facts uk 1 with ⟨ku, ku1, ku2⟩ | ⟨ku, ku1, ku2⟩
  · subst kt ku; clear kt1 kt2 ku1 ku2
    rcases eq_facts ts us with ⟨r0, r1, r2⟩ | ⟨r0, r1, r2⟩
    · subst r0; clear r1 r2
      have HQ1 : Hid (q = if (Tm.mk 1 tn ts tl).cmp (Tm.mk 1 un ts ul) < 0 then ((Tm.mk 1 un ts ul), (Tm.mk 1 tn ts tl), 0) else ((Tm.mk 1 tn ts tl), (Tm.mk 1 un ts ul), 0)) := ((HQ.out.trans (if_pos rfl)).trans (if_pos rfl)).trans (if_pos rfl)
      clear HQ
      have CM : Hid (∀ Z, Below w.heap.size w Z → Calls Tryz.prog 41 #[(Tm.mk 1 tn ts tl).val A c, (Tm.mk 1 un ts ul).val A' c'] Z fun e w' => e = .returned (.int .i64 ((Tm.mk 1 tn ts tl).cmp (Tm.mk 1 un ts ul))) ∧ Lay Z.heap.size Z w') := Lib.hid fun Z hZ =>
        rcompare_any 1000000 _ _ A A' c c' Z ht (Nat.le_refl _) hu (HRt.out Z hZ) (HRu.out Z hZ)
      obtain ⟨cm, hcm⟩ : ∃ v, v = (Tm.mk 1 tn ts tl).cmp (Tm.mk 1 un ts ul) := ⟨_, rfl⟩
      rw [← hcm] at CM HQ1
      clear hcm
      simp only [Tm.val, Tm.kind, Tm.name, Tm.sort, Tm.kids] at CM
      obtain ⟨a0, a1, a2, a3, af⟩ := box_at (show V.heap[w.heap.size]? = some (.cells #[.int .i64 1, .string tn, .int .i64 ts, .slice A tl.length c] 24 (0, 0)) from H4.out.one)
      obtain ⟨b0, b1, b2, b3, bf⟩ := box_at (show V.heap[w.heap.size + 1]? = some (.cells #[.int .i64 1, .string un, .int .i64 ts, .slice A' ul.length c'] 24 (0, 0)) from H4.out.two)
      go_wp2_with fail
      refine (CM.out V H4.out.bel).mono ?_; clear CM; clear a0 a1 a2 a3 af b0 b1 b2 b3 bf
      rintro e w5 ⟨rfl, hl5⟩
      have HF5 := Lib.hid (H4.out.keep (fun k hk1 hk2 => hl5.below.block k (by have := H4.out.lt; omega)) (below_then H4.out.bel hl5.below H4.out.bel.size)); clear hl5
      obtain ⟨a0, a1, a2, a3, af⟩ := box_at (show w5.heap[w.heap.size]? = some (.cells #[.int .i64 1, .string tn, .int .i64 ts, .slice A tl.length c] 24 (0, 0)) from HF5.out.one)
      obtain ⟨b0, b1, b2, b3, bf⟩ := box_at (show w5.heap[w.heap.size + 1]? = some (.cells #[.int .i64 1, .string un, .int .i64 ts, .slice A' ul.length c'] 24 (0, 0)) from HF5.out.two)
      rcases Int.lt_or_le cm 0 with hc0 | hc0
      · have HQ2 := Lib.hid (HQ1.out.trans (if_pos hc0))
        go_wp2_with fail
        have hsw : Four w (boxT (Tm.mk 1 un ts ul) A' c') (boxT (Tm.mk 1 tn ts tl) A c) (.cells #[.int .i64 0, .string ⟨#[]⟩, .int .i64 0, .slice none 0 0] 24 (0, 0)) (.cells #[.int .i64 0, .string ⟨#[]⟩, .int .i64 0, .slice none 0 0] 24 (0, 0)) ((((((((w5.setCell ⟨w.heap.size, 0, none⟩ (.int .i64 1)).setCell ⟨w.heap.size, 1, none⟩ (.string un)).setCell ⟨w.heap.size, 2, none⟩ (.int .i64 ts)).setCell ⟨w.heap.size, 3, none⟩ (.slice A' ul.length c')).setCell ⟨w.heap.size + 1, 0, none⟩ (.int .i64 1)).setCell ⟨w.heap.size + 1, 1, none⟩ (.string tn)).setCell ⟨w.heap.size + 1, 2, none⟩ (.int .i64 ts)).setCell ⟨w.heap.size + 1, 3, none⟩ (.slice A tl.length c)) := HF5.out.swap
        generalize ((((((((w5.setCell ⟨w.heap.size, 0, none⟩ (.int .i64 1)).setCell ⟨w.heap.size, 1, none⟩ (.string un)).setCell ⟨w.heap.size, 2, none⟩ (.int .i64 ts)).setCell ⟨w.heap.size, 3, none⟩ (.slice A' ul.length c')).setCell ⟨w.heap.size + 1, 0, none⟩ (.int .i64 1)).setCell ⟨w.heap.size + 1, 1, none⟩ (.string tn)).setCell ⟨w.heap.size + 1, 2, none⟩ (.int .i64 ts)).setCell ⟨w.heap.size + 1, 3, none⟩ (.slice A tl.length c)) = W6 at hsw ⊢
        have HF6 := Lib.hid hsw; clear hsw
        clear a0 a1 a2 a3 af b0 b1 b2 b3 bf
        obtain ⟨a0, a1, a2, a3, af⟩ := box_at (show W6.heap[w.heap.size]? = some (.cells #[.int .i64 1, .string un, .int .i64 ts, .slice A' ul.length c'] 24 (0, 0)) from HF6.out.one)
        obtain ⟨b0, b1, b2, b3, bf⟩ := box_at (show W6.heap[w.heap.size + 1]? = some (.cells #[.int .i64 1, .string tn, .int .i64 ts, .slice A tl.length c] 24 (0, 0)) from HF6.out.two)
        go_wp2_with fail
        clear a0 a1 a2 a3 af b0 b1 b2 b3 bf
        have hf0 : Four w (boxT (Tm.mk 1 un ts ul) A' c') (boxT (Tm.mk 1 tn ts tl) A c) (.cells #[.int .i64 0, .string ⟨#[]⟩, .int .i64 0, .slice none 0 0] 24 (0, 0)) (.cells #[.int .i64 0, .string ⟨#[]⟩, .int .i64 0, .slice none 0 0] 24 (0, 0)) W6.drew := HF6.out.keep (fun _ _ _ => rfl) HF6.out.bel.drew
        refine wp_region_mix (fun Y => Y.heap[w.heap.size]? = some (boxT (Tm.mk 1 un ts ul) A' c') ∧ Y.heap[w.heap.size + 1]? = some (boxT (Tm.mk 1 tn ts tl) A c)) 4 (.held 0 (.held 1 (.op 2 (.op 3 (.op 4 .nil))))) mixed (by kernel_rfl) ?_
        generalize W6.drew = D at *
        refine mix_take (v := .agg #[.int .i64 1, .string un, .int .i64 ts, .slice A' ul.length c']) rfl rfl (fun _ _ _ h => h) ⟨hf0.one, hf0.two⟩ (fun Y hY => by
          obtain ⟨z0, z1, z2, z3, zf⟩ := box_at (show Y.heap[w.heap.size]? = some (.cells #[.int .i64 1, .string un, .int .i64 ts, .slice A' ul.length c'] 24 (0, 0)) from hY.1)
          (try simp only [Act.put]); go_simp) ?_
        refine mix_take (v := .agg #[.int .i64 1, .string tn, .int .i64 ts, .slice A tl.length c]) rfl rfl (fun _ _ _ h => h) ⟨hf0.one, hf0.two⟩ (fun Y hY => by
          obtain ⟨z0, z1, z2, z3, zf⟩ := box_at (show Y.heap[w.heap.size + 1]? = some (.cells #[.int .i64 1, .string tn, .int .i64 ts, .slice A tl.length c] 24 (0, 0)) from hY.2)
          (try simp only [Act.put]); go_simp) ?_
        simp only [Act.put, List.setIfInBounds_toArray]
        obtain ⟨f0, f1, f2, f3, ff⟩ := box_at hf0.three
        refine mix_op rfl rfl (fun K hK => ?_)
        go_wp2_with fail
        have hf1 : Four w (boxT (Tm.mk 1 un ts ul) A' c') (boxT (Tm.mk 1 tn ts tl) A c) (boxT (Tm.mk 1 un ts ul) A' c') (.cells #[.int .i64 0, .string ⟨#[]⟩, .int .i64 0, .slice none 0 0] 24 (0, 0)) ((((D.setCell ⟨w.heap.size + 1 + 1, 0, none⟩ (.int .i64 1)).setCell ⟨w.heap.size + 1 + 1, 1, none⟩ (.string un)).setCell ⟨w.heap.size + 1 + 1, 2, none⟩ (.int .i64 ts)).setCell ⟨w.heap.size + 1 + 1, 3, none⟩ (.slice A' ul.length c')) := hf0.res1 (Tm.mk 1 un ts ul) A' c'
        generalize ((((D.setCell ⟨w.heap.size + 1 + 1, 0, none⟩ (.int .i64 1)).setCell ⟨w.heap.size + 1 + 1, 1, none⟩ (.string un)).setCell ⟨w.heap.size + 1 + 1, 2, none⟩ (.int .i64 ts)).setCell ⟨w.heap.size + 1 + 1, 3, none⟩ (.slice A' ul.length c')) = M1 at hf1 ⊢
        refine ⟨fun _ => ⟨hf1.one, hf1.two⟩, ?_⟩
        clear f0 f1 f2 f3 ff
        obtain ⟨g0, g1, g2, g3, gf⟩ := box_at hf1.four
        refine mix_op rfl rfl (fun K hK => ?_)
        go_wp2_with fail
        have hf2 : Four w (boxT (Tm.mk 1 un ts ul) A' c') (boxT (Tm.mk 1 tn ts tl) A c) (boxT (Tm.mk 1 un ts ul) A' c') (boxT (Tm.mk 1 tn ts tl) A c) ((((M1.setCell ⟨w.heap.size + 1 + 1 + 1, 0, none⟩ (.int .i64 1)).setCell ⟨w.heap.size + 1 + 1 + 1, 1, none⟩ (.string tn)).setCell ⟨w.heap.size + 1 + 1 + 1, 2, none⟩ (.int .i64 ts)).setCell ⟨w.heap.size + 1 + 1 + 1, 3, none⟩ (.slice A tl.length c)) := hf1.res2 (Tm.mk 1 tn ts tl) A c
        generalize ((((M1.setCell ⟨w.heap.size + 1 + 1 + 1, 0, none⟩ (.int .i64 1)).setCell ⟨w.heap.size + 1 + 1 + 1, 1, none⟩ (.string tn)).setCell ⟨w.heap.size + 1 + 1 + 1, 2, none⟩ (.int .i64 ts)).setCell ⟨w.heap.size + 1 + 1 + 1, 3, none⟩ (.slice A tl.length c)) = M2 at hf2 ⊢
        refine ⟨fun _ => ⟨hf2.one, hf2.two⟩, ?_⟩
        clear g0 g1 g2 g3 gf
        refine mix_op rfl rfl (fun K hK => ?_)
        go_wp2_with fail
        refine ⟨fun h => absurd h (by decide), mix_nil ?_⟩
        obtain ⟨f0, f1, f2, f3, ff⟩ := box_at (show M2.heap[w.heap.size + 1 + 1]? = some (.cells #[.int .i64 1, .string un, .int .i64 ts, .slice A' ul.length c'] 24 (0, 0)) from hf2.three)
        obtain ⟨g0, g1, g2, g3, gf⟩ := box_at (show M2.heap[w.heap.size + 1 + 1 + 1]? = some (.cells #[.int .i64 1, .string tn, .int .i64 ts, .slice A tl.length c] 24 (0, 0)) from hf2.four)
        go_wp2_with fail
        refine bodyPost_ret (v := .tuple #[.agg #[.int .i64 1, .string un, .int .i64 ts, .slice A' ul.length c'], .agg #[.int .i64 1, .string tn, .int .i64 ts, .slice A tl.length c], .int .i64 0]) ?_ rfl ?_
        · simp [results, Tryz.results64, go_sem, f0, f1, f2, f3, g0, g1, g2, g3]
        have hq := HQ2.out
        exact ⟨(Tm.mk 1 un ts ul), A', c', (Tm.mk 1 tn ts tl), A, c, by rw [hq]; rfl, .inr ⟨rfl, rfl, rfl, rfl, rfl, rfl⟩, fun h => by rw [hq] at h ⊢; first | exact ⟨rfl, rfl⟩ | exact absurd (show (0 : Int) = 0 from h) (by decide), hf2.bel⟩
      · have HQ2 := Lib.hid (HQ1.out.trans (if_neg (by omega)))
        go_wp2_with fail
        clear a0 a1 a2 a3 af b0 b1 b2 b3 bf
        have hf0 : Four w (boxT (Tm.mk 1 tn ts tl) A c) (boxT (Tm.mk 1 un ts ul) A' c') (.cells #[.int .i64 0, .string ⟨#[]⟩, .int .i64 0, .slice none 0 0] 24 (0, 0)) (.cells #[.int .i64 0, .string ⟨#[]⟩, .int .i64 0, .slice none 0 0] 24 (0, 0)) w5.drew := HF5.out.keep (fun _ _ _ => rfl) HF5.out.bel.drew
        refine wp_region_mix (fun Y => Y.heap[w.heap.size]? = some (boxT (Tm.mk 1 tn ts tl) A c) ∧ Y.heap[w.heap.size + 1]? = some (boxT (Tm.mk 1 un ts ul) A' c')) 4 (.held 0 (.held 1 (.op 2 (.op 3 (.op 4 .nil))))) mixed (by kernel_rfl) ?_
        generalize w5.drew = D at *
        refine mix_take (v := .agg #[.int .i64 1, .string tn, .int .i64 ts, .slice A tl.length c]) rfl rfl (fun _ _ _ h => h) ⟨hf0.one, hf0.two⟩ (fun Y hY => by
          obtain ⟨z0, z1, z2, z3, zf⟩ := box_at (show Y.heap[w.heap.size]? = some (.cells #[.int .i64 1, .string tn, .int .i64 ts, .slice A tl.length c] 24 (0, 0)) from hY.1)
          (try simp only [Act.put]); go_simp) ?_
        refine mix_take (v := .agg #[.int .i64 1, .string un, .int .i64 ts, .slice A' ul.length c']) rfl rfl (fun _ _ _ h => h) ⟨hf0.one, hf0.two⟩ (fun Y hY => by
          obtain ⟨z0, z1, z2, z3, zf⟩ := box_at (show Y.heap[w.heap.size + 1]? = some (.cells #[.int .i64 1, .string un, .int .i64 ts, .slice A' ul.length c'] 24 (0, 0)) from hY.2)
          (try simp only [Act.put]); go_simp) ?_
        simp only [Act.put, List.setIfInBounds_toArray]
        obtain ⟨f0, f1, f2, f3, ff⟩ := box_at hf0.three
        refine mix_op rfl rfl (fun K hK => ?_)
        go_wp2_with fail
        have hf1 : Four w (boxT (Tm.mk 1 tn ts tl) A c) (boxT (Tm.mk 1 un ts ul) A' c') (boxT (Tm.mk 1 tn ts tl) A c) (.cells #[.int .i64 0, .string ⟨#[]⟩, .int .i64 0, .slice none 0 0] 24 (0, 0)) ((((D.setCell ⟨w.heap.size + 1 + 1, 0, none⟩ (.int .i64 1)).setCell ⟨w.heap.size + 1 + 1, 1, none⟩ (.string tn)).setCell ⟨w.heap.size + 1 + 1, 2, none⟩ (.int .i64 ts)).setCell ⟨w.heap.size + 1 + 1, 3, none⟩ (.slice A tl.length c)) := hf0.res1 (Tm.mk 1 tn ts tl) A c
        generalize ((((D.setCell ⟨w.heap.size + 1 + 1, 0, none⟩ (.int .i64 1)).setCell ⟨w.heap.size + 1 + 1, 1, none⟩ (.string tn)).setCell ⟨w.heap.size + 1 + 1, 2, none⟩ (.int .i64 ts)).setCell ⟨w.heap.size + 1 + 1, 3, none⟩ (.slice A tl.length c)) = M1 at hf1 ⊢
        refine ⟨fun _ => ⟨hf1.one, hf1.two⟩, ?_⟩
        clear f0 f1 f2 f3 ff
        obtain ⟨g0, g1, g2, g3, gf⟩ := box_at hf1.four
        refine mix_op rfl rfl (fun K hK => ?_)
        go_wp2_with fail
        have hf2 : Four w (boxT (Tm.mk 1 tn ts tl) A c) (boxT (Tm.mk 1 un ts ul) A' c') (boxT (Tm.mk 1 tn ts tl) A c) (boxT (Tm.mk 1 un ts ul) A' c') ((((M1.setCell ⟨w.heap.size + 1 + 1 + 1, 0, none⟩ (.int .i64 1)).setCell ⟨w.heap.size + 1 + 1 + 1, 1, none⟩ (.string un)).setCell ⟨w.heap.size + 1 + 1 + 1, 2, none⟩ (.int .i64 ts)).setCell ⟨w.heap.size + 1 + 1 + 1, 3, none⟩ (.slice A' ul.length c')) := hf1.res2 (Tm.mk 1 un ts ul) A' c'
        generalize ((((M1.setCell ⟨w.heap.size + 1 + 1 + 1, 0, none⟩ (.int .i64 1)).setCell ⟨w.heap.size + 1 + 1 + 1, 1, none⟩ (.string un)).setCell ⟨w.heap.size + 1 + 1 + 1, 2, none⟩ (.int .i64 ts)).setCell ⟨w.heap.size + 1 + 1 + 1, 3, none⟩ (.slice A' ul.length c')) = M2 at hf2 ⊢
        refine ⟨fun _ => ⟨hf2.one, hf2.two⟩, ?_⟩
        clear g0 g1 g2 g3 gf
        refine mix_op rfl rfl (fun K hK => ?_)
        go_wp2_with fail
        refine ⟨fun h => absurd h (by decide), mix_nil ?_⟩
        obtain ⟨f0, f1, f2, f3, ff⟩ := box_at (show M2.heap[w.heap.size + 1 + 1]? = some (.cells #[.int .i64 1, .string tn, .int .i64 ts, .slice A tl.length c] 24 (0, 0)) from hf2.three)
        obtain ⟨g0, g1, g2, g3, gf⟩ := box_at (show M2.heap[w.heap.size + 1 + 1 + 1]? = some (.cells #[.int .i64 1, .string un, .int .i64 ts, .slice A' ul.length c'] 24 (0, 0)) from hf2.four)
        go_wp2_with fail
        refine bodyPost_ret (v := .tuple #[.agg #[.int .i64 1, .string tn, .int .i64 ts, .slice A tl.length c], .agg #[.int .i64 1, .string un, .int .i64 ts, .slice A' ul.length c'], .int .i64 0]) ?_ rfl ?_
        · simp [results, Tryz.results64, go_sem, f0, f1, f2, f3, g0, g1, g2, g3]
        have hq := HQ2.out
        exact ⟨(Tm.mk 1 tn ts tl), A, c, (Tm.mk 1 un ts ul), A', c', by rw [hq]; rfl, .inl ⟨rfl, rfl, rfl, rfl, rfl, rfl⟩, fun h => by rw [hq] at h ⊢; first | exact ⟨rfl, rfl⟩ | exact absurd (show (0 : Int) = 0 from h) (by decide), hf2.bel⟩
    · obtain ⟨-, r3, r4⟩ := (eq_facts us ts).resolve_left (fun h => r0 h.1.symm)
      rcases eq_facts us 0 with ⟨s0, s1, s2⟩ | ⟨s0, s1, s2⟩
      · subst s0; clear s1 s2
        have HQ2 : Hid (q = ((Tm.mk 1 un 0 ul), (Tm.mk 1 tn ts tl), 0)) := (((HQ.out.trans (if_pos rfl)).trans (if_pos rfl)).trans (if_neg r0)).trans (if_pos rfl)
        clear HQ
        obtain ⟨a0, a1, a2, a3, af⟩ := box_at (show V.heap[w.heap.size]? = some (.cells #[.int .i64 1, .string tn, .int .i64 ts, .slice A tl.length c] 24 (0, 0)) from H4.out.one)
        obtain ⟨b0, b1, b2, b3, bf⟩ := box_at (show V.heap[w.heap.size + 1]? = some (.cells #[.int .i64 1, .string un, .int .i64 0, .slice A' ul.length c'] 24 (0, 0)) from H4.out.two)
        go_wp2_with fail
        have hsw : Four w (boxT (Tm.mk 1 un 0 ul) A' c') (boxT (Tm.mk 1 tn ts tl) A c) (.cells #[.int .i64 0, .string ⟨#[]⟩, .int .i64 0, .slice none 0 0] 24 (0, 0)) (.cells #[.int .i64 0, .string ⟨#[]⟩, .int .i64 0, .slice none 0 0] 24 (0, 0)) ((((((((V.setCell ⟨w.heap.size, 0, none⟩ (.int .i64 1)).setCell ⟨w.heap.size, 1, none⟩ (.string un)).setCell ⟨w.heap.size, 2, none⟩ (.int .i64 0)).setCell ⟨w.heap.size, 3, none⟩ (.slice A' ul.length c')).setCell ⟨w.heap.size + 1, 0, none⟩ (.int .i64 1)).setCell ⟨w.heap.size + 1, 1, none⟩ (.string tn)).setCell ⟨w.heap.size + 1, 2, none⟩ (.int .i64 ts)).setCell ⟨w.heap.size + 1, 3, none⟩ (.slice A tl.length c)) := H4.out.swap
        generalize ((((((((V.setCell ⟨w.heap.size, 0, none⟩ (.int .i64 1)).setCell ⟨w.heap.size, 1, none⟩ (.string un)).setCell ⟨w.heap.size, 2, none⟩ (.int .i64 0)).setCell ⟨w.heap.size, 3, none⟩ (.slice A' ul.length c')).setCell ⟨w.heap.size + 1, 0, none⟩ (.int .i64 1)).setCell ⟨w.heap.size + 1, 1, none⟩ (.string tn)).setCell ⟨w.heap.size + 1, 2, none⟩ (.int .i64 ts)).setCell ⟨w.heap.size + 1, 3, none⟩ (.slice A tl.length c)) = W6 at hsw ⊢
        have HF6 := Lib.hid hsw; clear hsw
        clear a0 a1 a2 a3 af b0 b1 b2 b3 bf
        obtain ⟨a0, a1, a2, a3, af⟩ := box_at (show W6.heap[w.heap.size]? = some (.cells #[.int .i64 1, .string un, .int .i64 0, .slice A' ul.length c'] 24 (0, 0)) from HF6.out.one)
        obtain ⟨b0, b1, b2, b3, bf⟩ := box_at (show W6.heap[w.heap.size + 1]? = some (.cells #[.int .i64 1, .string tn, .int .i64 ts, .slice A tl.length c] 24 (0, 0)) from HF6.out.two)
        go_wp2_with fail
        clear a0 a1 a2 a3 af b0 b1 b2 b3 bf
        have hf0 : Four w (boxT (Tm.mk 1 un 0 ul) A' c') (boxT (Tm.mk 1 tn ts tl) A c) (.cells #[.int .i64 0, .string ⟨#[]⟩, .int .i64 0, .slice none 0 0] 24 (0, 0)) (.cells #[.int .i64 0, .string ⟨#[]⟩, .int .i64 0, .slice none 0 0] 24 (0, 0)) W6.drew := HF6.out.keep (fun _ _ _ => rfl) HF6.out.bel.drew
        refine wp_region_mix (fun Y => Y.heap[w.heap.size]? = some (boxT (Tm.mk 1 un 0 ul) A' c') ∧ Y.heap[w.heap.size + 1]? = some (boxT (Tm.mk 1 tn ts tl) A c)) 4 (.held 0 (.held 1 (.op 2 (.op 3 (.op 4 .nil))))) mixed (by kernel_rfl) ?_
        generalize W6.drew = D at *
        refine mix_take (v := .agg #[.int .i64 1, .string un, .int .i64 0, .slice A' ul.length c']) rfl rfl (fun _ _ _ h => h) ⟨hf0.one, hf0.two⟩ (fun Y hY => by
          obtain ⟨z0, z1, z2, z3, zf⟩ := box_at (show Y.heap[w.heap.size]? = some (.cells #[.int .i64 1, .string un, .int .i64 0, .slice A' ul.length c'] 24 (0, 0)) from hY.1)
          (try simp only [Act.put]); go_simp) ?_
        refine mix_take (v := .agg #[.int .i64 1, .string tn, .int .i64 ts, .slice A tl.length c]) rfl rfl (fun _ _ _ h => h) ⟨hf0.one, hf0.two⟩ (fun Y hY => by
          obtain ⟨z0, z1, z2, z3, zf⟩ := box_at (show Y.heap[w.heap.size + 1]? = some (.cells #[.int .i64 1, .string tn, .int .i64 ts, .slice A tl.length c] 24 (0, 0)) from hY.2)
          (try simp only [Act.put]); go_simp) ?_
        simp only [Act.put, List.setIfInBounds_toArray]
        obtain ⟨f0, f1, f2, f3, ff⟩ := box_at hf0.three
        refine mix_op rfl rfl (fun K hK => ?_)
        go_wp2_with fail
        have hf1 : Four w (boxT (Tm.mk 1 un 0 ul) A' c') (boxT (Tm.mk 1 tn ts tl) A c) (boxT (Tm.mk 1 un 0 ul) A' c') (.cells #[.int .i64 0, .string ⟨#[]⟩, .int .i64 0, .slice none 0 0] 24 (0, 0)) ((((D.setCell ⟨w.heap.size + 1 + 1, 0, none⟩ (.int .i64 1)).setCell ⟨w.heap.size + 1 + 1, 1, none⟩ (.string un)).setCell ⟨w.heap.size + 1 + 1, 2, none⟩ (.int .i64 0)).setCell ⟨w.heap.size + 1 + 1, 3, none⟩ (.slice A' ul.length c')) := hf0.res1 (Tm.mk 1 un 0 ul) A' c'
        generalize ((((D.setCell ⟨w.heap.size + 1 + 1, 0, none⟩ (.int .i64 1)).setCell ⟨w.heap.size + 1 + 1, 1, none⟩ (.string un)).setCell ⟨w.heap.size + 1 + 1, 2, none⟩ (.int .i64 0)).setCell ⟨w.heap.size + 1 + 1, 3, none⟩ (.slice A' ul.length c')) = M1 at hf1 ⊢
        refine ⟨fun _ => ⟨hf1.one, hf1.two⟩, ?_⟩
        clear f0 f1 f2 f3 ff
        obtain ⟨g0, g1, g2, g3, gf⟩ := box_at hf1.four
        refine mix_op rfl rfl (fun K hK => ?_)
        go_wp2_with fail
        have hf2 : Four w (boxT (Tm.mk 1 un 0 ul) A' c') (boxT (Tm.mk 1 tn ts tl) A c) (boxT (Tm.mk 1 un 0 ul) A' c') (boxT (Tm.mk 1 tn ts tl) A c) ((((M1.setCell ⟨w.heap.size + 1 + 1 + 1, 0, none⟩ (.int .i64 1)).setCell ⟨w.heap.size + 1 + 1 + 1, 1, none⟩ (.string tn)).setCell ⟨w.heap.size + 1 + 1 + 1, 2, none⟩ (.int .i64 ts)).setCell ⟨w.heap.size + 1 + 1 + 1, 3, none⟩ (.slice A tl.length c)) := hf1.res2 (Tm.mk 1 tn ts tl) A c
        generalize ((((M1.setCell ⟨w.heap.size + 1 + 1 + 1, 0, none⟩ (.int .i64 1)).setCell ⟨w.heap.size + 1 + 1 + 1, 1, none⟩ (.string tn)).setCell ⟨w.heap.size + 1 + 1 + 1, 2, none⟩ (.int .i64 ts)).setCell ⟨w.heap.size + 1 + 1 + 1, 3, none⟩ (.slice A tl.length c)) = M2 at hf2 ⊢
        refine ⟨fun _ => ⟨hf2.one, hf2.two⟩, ?_⟩
        clear g0 g1 g2 g3 gf
        refine mix_op rfl rfl (fun K hK => ?_)
        go_wp2_with fail
        refine ⟨fun h => absurd h (by decide), mix_nil ?_⟩
        obtain ⟨f0, f1, f2, f3, ff⟩ := box_at (show M2.heap[w.heap.size + 1 + 1]? = some (.cells #[.int .i64 1, .string un, .int .i64 0, .slice A' ul.length c'] 24 (0, 0)) from hf2.three)
        obtain ⟨g0, g1, g2, g3, gf⟩ := box_at (show M2.heap[w.heap.size + 1 + 1 + 1]? = some (.cells #[.int .i64 1, .string tn, .int .i64 ts, .slice A tl.length c] 24 (0, 0)) from hf2.four)
        go_wp2_with fail
        refine bodyPost_ret (v := .tuple #[.agg #[.int .i64 1, .string un, .int .i64 0, .slice A' ul.length c'], .agg #[.int .i64 1, .string tn, .int .i64 ts, .slice A tl.length c], .int .i64 0]) ?_ rfl ?_
        · simp [results, Tryz.results64, go_sem, f0, f1, f2, f3, g0, g1, g2, g3]
        have hq := HQ2.out
        exact ⟨(Tm.mk 1 un 0 ul), A', c', (Tm.mk 1 tn ts tl), A, c, by rw [hq]; rfl, .inr ⟨rfl, rfl, rfl, rfl, rfl, rfl⟩, fun h => by rw [hq] at h ⊢; first | exact ⟨rfl, rfl⟩ | exact absurd (show (0 : Int) = 0 from h) (by decide), hf2.bel⟩
      · rcases eq_facts ts 0 with ⟨x0, x1, x2⟩ | ⟨x0, x1, x2⟩
        · subst x0; clear x1 x2
          have HQ2 : Hid (q = ((Tm.mk 1 tn 0 tl), (Tm.mk 1 un us ul), 0)) := ((((HQ.out.trans (if_pos rfl)).trans (if_pos rfl)).trans (if_neg r0)).trans (if_neg s0)).trans (if_pos rfl)
          clear HQ
          obtain ⟨a0, a1, a2, a3, af⟩ := box_at (show V.heap[w.heap.size]? = some (.cells #[.int .i64 1, .string tn, .int .i64 0, .slice A tl.length c] 24 (0, 0)) from H4.out.one)
          obtain ⟨b0, b1, b2, b3, bf⟩ := box_at (show V.heap[w.heap.size + 1]? = some (.cells #[.int .i64 1, .string un, .int .i64 us, .slice A' ul.length c'] 24 (0, 0)) from H4.out.two)
          go_wp2_with fail
          clear a0 a1 a2 a3 af b0 b1 b2 b3 bf
          have hf0 : Four w (boxT (Tm.mk 1 tn 0 tl) A c) (boxT (Tm.mk 1 un us ul) A' c') (.cells #[.int .i64 0, .string ⟨#[]⟩, .int .i64 0, .slice none 0 0] 24 (0, 0)) (.cells #[.int .i64 0, .string ⟨#[]⟩, .int .i64 0, .slice none 0 0] 24 (0, 0)) V.drew := H4.out.keep (fun _ _ _ => rfl) H4.out.bel.drew
          refine wp_region_mix (fun Y => Y.heap[w.heap.size]? = some (boxT (Tm.mk 1 tn 0 tl) A c) ∧ Y.heap[w.heap.size + 1]? = some (boxT (Tm.mk 1 un us ul) A' c')) 4 (.held 0 (.held 1 (.op 2 (.op 3 (.op 4 .nil))))) mixed (by kernel_rfl) ?_
          generalize V.drew = D at *
          refine mix_take (v := .agg #[.int .i64 1, .string tn, .int .i64 0, .slice A tl.length c]) rfl rfl (fun _ _ _ h => h) ⟨hf0.one, hf0.two⟩ (fun Y hY => by
            obtain ⟨z0, z1, z2, z3, zf⟩ := box_at (show Y.heap[w.heap.size]? = some (.cells #[.int .i64 1, .string tn, .int .i64 0, .slice A tl.length c] 24 (0, 0)) from hY.1)
            (try simp only [Act.put]); go_simp) ?_
          refine mix_take (v := .agg #[.int .i64 1, .string un, .int .i64 us, .slice A' ul.length c']) rfl rfl (fun _ _ _ h => h) ⟨hf0.one, hf0.two⟩ (fun Y hY => by
            obtain ⟨z0, z1, z2, z3, zf⟩ := box_at (show Y.heap[w.heap.size + 1]? = some (.cells #[.int .i64 1, .string un, .int .i64 us, .slice A' ul.length c'] 24 (0, 0)) from hY.2)
            (try simp only [Act.put]); go_simp) ?_
          simp only [Act.put, List.setIfInBounds_toArray]
          obtain ⟨f0, f1, f2, f3, ff⟩ := box_at hf0.three
          refine mix_op rfl rfl (fun K hK => ?_)
          go_wp2_with fail
          have hf1 : Four w (boxT (Tm.mk 1 tn 0 tl) A c) (boxT (Tm.mk 1 un us ul) A' c') (boxT (Tm.mk 1 tn 0 tl) A c) (.cells #[.int .i64 0, .string ⟨#[]⟩, .int .i64 0, .slice none 0 0] 24 (0, 0)) ((((D.setCell ⟨w.heap.size + 1 + 1, 0, none⟩ (.int .i64 1)).setCell ⟨w.heap.size + 1 + 1, 1, none⟩ (.string tn)).setCell ⟨w.heap.size + 1 + 1, 2, none⟩ (.int .i64 0)).setCell ⟨w.heap.size + 1 + 1, 3, none⟩ (.slice A tl.length c)) := hf0.res1 (Tm.mk 1 tn 0 tl) A c
          generalize ((((D.setCell ⟨w.heap.size + 1 + 1, 0, none⟩ (.int .i64 1)).setCell ⟨w.heap.size + 1 + 1, 1, none⟩ (.string tn)).setCell ⟨w.heap.size + 1 + 1, 2, none⟩ (.int .i64 0)).setCell ⟨w.heap.size + 1 + 1, 3, none⟩ (.slice A tl.length c)) = M1 at hf1 ⊢
          refine ⟨fun _ => ⟨hf1.one, hf1.two⟩, ?_⟩
          clear f0 f1 f2 f3 ff
          obtain ⟨g0, g1, g2, g3, gf⟩ := box_at hf1.four
          refine mix_op rfl rfl (fun K hK => ?_)
          go_wp2_with fail
          have hf2 : Four w (boxT (Tm.mk 1 tn 0 tl) A c) (boxT (Tm.mk 1 un us ul) A' c') (boxT (Tm.mk 1 tn 0 tl) A c) (boxT (Tm.mk 1 un us ul) A' c') ((((M1.setCell ⟨w.heap.size + 1 + 1 + 1, 0, none⟩ (.int .i64 1)).setCell ⟨w.heap.size + 1 + 1 + 1, 1, none⟩ (.string un)).setCell ⟨w.heap.size + 1 + 1 + 1, 2, none⟩ (.int .i64 us)).setCell ⟨w.heap.size + 1 + 1 + 1, 3, none⟩ (.slice A' ul.length c')) := hf1.res2 (Tm.mk 1 un us ul) A' c'
          generalize ((((M1.setCell ⟨w.heap.size + 1 + 1 + 1, 0, none⟩ (.int .i64 1)).setCell ⟨w.heap.size + 1 + 1 + 1, 1, none⟩ (.string un)).setCell ⟨w.heap.size + 1 + 1 + 1, 2, none⟩ (.int .i64 us)).setCell ⟨w.heap.size + 1 + 1 + 1, 3, none⟩ (.slice A' ul.length c')) = M2 at hf2 ⊢
          refine ⟨fun _ => ⟨hf2.one, hf2.two⟩, ?_⟩
          clear g0 g1 g2 g3 gf
          refine mix_op rfl rfl (fun K hK => ?_)
          go_wp2_with fail
          refine ⟨fun h => absurd h (by decide), mix_nil ?_⟩
          obtain ⟨f0, f1, f2, f3, ff⟩ := box_at (show M2.heap[w.heap.size + 1 + 1]? = some (.cells #[.int .i64 1, .string tn, .int .i64 0, .slice A tl.length c] 24 (0, 0)) from hf2.three)
          obtain ⟨g0, g1, g2, g3, gf⟩ := box_at (show M2.heap[w.heap.size + 1 + 1 + 1]? = some (.cells #[.int .i64 1, .string un, .int .i64 us, .slice A' ul.length c'] 24 (0, 0)) from hf2.four)
          go_wp2_with fail
          refine bodyPost_ret (v := .tuple #[.agg #[.int .i64 1, .string tn, .int .i64 0, .slice A tl.length c], .agg #[.int .i64 1, .string un, .int .i64 us, .slice A' ul.length c'], .int .i64 0]) ?_ rfl ?_
          · simp [results, Tryz.results64, go_sem, f0, f1, f2, f3, g0, g1, g2, g3]
          have hq := HQ2.out
          exact ⟨(Tm.mk 1 tn 0 tl), A, c, (Tm.mk 1 un us ul), A', c', by rw [hq]; rfl, .inl ⟨rfl, rfl, rfl, rfl, rfl, rfl⟩, fun h => by rw [hq] at h ⊢; first | exact ⟨rfl, rfl⟩ | exact absurd (show (0 : Int) = 0 from h) (by decide), hf2.bel⟩
        · have HQ2 : Hid (q = ((Tm.mk 1 tn ts tl), (Tm.mk 1 un us ul), 11)) := ((((HQ.out.trans (if_pos rfl)).trans (if_pos rfl)).trans (if_neg r0)).trans (if_neg s0)).trans (if_neg x0)
          clear HQ
          obtain ⟨a0, a1, a2, a3, af⟩ := box_at (show V.heap[w.heap.size]? = some (.cells #[.int .i64 1, .string tn, .int .i64 ts, .slice A tl.length c] 24 (0, 0)) from H4.out.one)
          obtain ⟨b0, b1, b2, b3, bf⟩ := box_at (show V.heap[w.heap.size + 1]? = some (.cells #[.int .i64 1, .string un, .int .i64 us, .slice A' ul.length c'] 24 (0, 0)) from H4.out.two)
          go_wp2_with fail
          clear a0 a1 a2 a3 af b0 b1 b2 b3 bf
          have hf0 : Four w (boxT (Tm.mk 1 tn ts tl) A c) (boxT (Tm.mk 1 un us ul) A' c') (.cells #[.int .i64 0, .string ⟨#[]⟩, .int .i64 0, .slice none 0 0] 24 (0, 0)) (.cells #[.int .i64 0, .string ⟨#[]⟩, .int .i64 0, .slice none 0 0] 24 (0, 0)) V.drew := H4.out.keep (fun _ _ _ => rfl) H4.out.bel.drew
          refine wp_region_mix (fun Y => Y.heap[w.heap.size]? = some (boxT (Tm.mk 1 tn ts tl) A c) ∧ Y.heap[w.heap.size + 1]? = some (boxT (Tm.mk 1 un us ul) A' c')) 4 (.held 0 (.held 1 (.op 2 (.op 3 (.op 4 .nil))))) mixed (by kernel_rfl) ?_
          generalize V.drew = D at *
          refine mix_take (v := .agg #[.int .i64 1, .string tn, .int .i64 ts, .slice A tl.length c]) rfl rfl (fun _ _ _ h => h) ⟨hf0.one, hf0.two⟩ (fun Y hY => by
            obtain ⟨z0, z1, z2, z3, zf⟩ := box_at (show Y.heap[w.heap.size]? = some (.cells #[.int .i64 1, .string tn, .int .i64 ts, .slice A tl.length c] 24 (0, 0)) from hY.1)
            (try simp only [Act.put]); go_simp) ?_
          refine mix_take (v := .agg #[.int .i64 1, .string un, .int .i64 us, .slice A' ul.length c']) rfl rfl (fun _ _ _ h => h) ⟨hf0.one, hf0.two⟩ (fun Y hY => by
            obtain ⟨z0, z1, z2, z3, zf⟩ := box_at (show Y.heap[w.heap.size + 1]? = some (.cells #[.int .i64 1, .string un, .int .i64 us, .slice A' ul.length c'] 24 (0, 0)) from hY.2)
            (try simp only [Act.put]); go_simp) ?_
          simp only [Act.put, List.setIfInBounds_toArray]
          obtain ⟨f0, f1, f2, f3, ff⟩ := box_at hf0.three
          refine mix_op rfl rfl (fun K hK => ?_)
          go_wp2_with fail
          have hf1 : Four w (boxT (Tm.mk 1 tn ts tl) A c) (boxT (Tm.mk 1 un us ul) A' c') (boxT (Tm.mk 1 tn ts tl) A c) (.cells #[.int .i64 0, .string ⟨#[]⟩, .int .i64 0, .slice none 0 0] 24 (0, 0)) ((((D.setCell ⟨w.heap.size + 1 + 1, 0, none⟩ (.int .i64 1)).setCell ⟨w.heap.size + 1 + 1, 1, none⟩ (.string tn)).setCell ⟨w.heap.size + 1 + 1, 2, none⟩ (.int .i64 ts)).setCell ⟨w.heap.size + 1 + 1, 3, none⟩ (.slice A tl.length c)) := hf0.res1 (Tm.mk 1 tn ts tl) A c
          generalize ((((D.setCell ⟨w.heap.size + 1 + 1, 0, none⟩ (.int .i64 1)).setCell ⟨w.heap.size + 1 + 1, 1, none⟩ (.string tn)).setCell ⟨w.heap.size + 1 + 1, 2, none⟩ (.int .i64 ts)).setCell ⟨w.heap.size + 1 + 1, 3, none⟩ (.slice A tl.length c)) = M1 at hf1 ⊢
          refine ⟨fun _ => ⟨hf1.one, hf1.two⟩, ?_⟩
          clear f0 f1 f2 f3 ff
          obtain ⟨g0, g1, g2, g3, gf⟩ := box_at hf1.four
          refine mix_op rfl rfl (fun K hK => ?_)
          go_wp2_with fail
          have hf2 : Four w (boxT (Tm.mk 1 tn ts tl) A c) (boxT (Tm.mk 1 un us ul) A' c') (boxT (Tm.mk 1 tn ts tl) A c) (boxT (Tm.mk 1 un us ul) A' c') ((((M1.setCell ⟨w.heap.size + 1 + 1 + 1, 0, none⟩ (.int .i64 1)).setCell ⟨w.heap.size + 1 + 1 + 1, 1, none⟩ (.string un)).setCell ⟨w.heap.size + 1 + 1 + 1, 2, none⟩ (.int .i64 us)).setCell ⟨w.heap.size + 1 + 1 + 1, 3, none⟩ (.slice A' ul.length c')) := hf1.res2 (Tm.mk 1 un us ul) A' c'
          generalize ((((M1.setCell ⟨w.heap.size + 1 + 1 + 1, 0, none⟩ (.int .i64 1)).setCell ⟨w.heap.size + 1 + 1 + 1, 1, none⟩ (.string un)).setCell ⟨w.heap.size + 1 + 1 + 1, 2, none⟩ (.int .i64 us)).setCell ⟨w.heap.size + 1 + 1 + 1, 3, none⟩ (.slice A' ul.length c')) = M2 at hf2 ⊢
          refine ⟨fun _ => ⟨hf2.one, hf2.two⟩, ?_⟩
          clear g0 g1 g2 g3 gf
          refine mix_op rfl rfl (fun K hK => ?_)
          go_wp2_with fail
          refine ⟨fun h => absurd h (by decide), mix_nil ?_⟩
          obtain ⟨f0, f1, f2, f3, ff⟩ := box_at (show M2.heap[w.heap.size + 1 + 1]? = some (.cells #[.int .i64 1, .string tn, .int .i64 ts, .slice A tl.length c] 24 (0, 0)) from hf2.three)
          obtain ⟨g0, g1, g2, g3, gf⟩ := box_at (show M2.heap[w.heap.size + 1 + 1 + 1]? = some (.cells #[.int .i64 1, .string un, .int .i64 us, .slice A' ul.length c'] 24 (0, 0)) from hf2.four)
          go_wp2_with fail
          refine bodyPost_ret (v := .tuple #[.agg #[.int .i64 1, .string tn, .int .i64 ts, .slice A tl.length c], .agg #[.int .i64 1, .string un, .int .i64 us, .slice A' ul.length c'], .int .i64 11]) ?_ rfl ?_
          · simp [results, Tryz.results64, go_sem, f0, f1, f2, f3, g0, g1, g2, g3]
          have hq := HQ2.out
          exact ⟨(Tm.mk 1 tn ts tl), A, c, (Tm.mk 1 un us ul), A', c', by rw [hq]; rfl, .inl ⟨rfl, rfl, rfl, rfl, rfl, rfl⟩, fun h => by rw [hq] at h ⊢; first | exact ⟨rfl, rfl⟩ | exact absurd (show (11 : Int) = 0 from h) (by decide), hf2.bel⟩
  · subst kt; clear kt1 kt2
    have HQ0 : Hid (q = oneU (Tm.mk 1 tn ts tl) (Tm.mk uk un us ul)) := (HQ.out.trans (if_pos rfl)).trans (if_neg ku)
    clear HQ
    have KY := Lib.hid ku; clear ku
    rcases eq_facts ts 0 with ⟨s0, s1, s2⟩ | ⟨s0, s1, s2⟩
    · subst s0
      have hfit : fits (Tm.mk 1 tn 0 tl) (Tm.mk uk un us ul) = true := fits_yes HVT.out HVU.out rfl (.inl rfl)
      have HQ2 : Hid (q = if occT (Tm.mk 1 tn 0 tl) (Tm.mk uk un us ul) = true then ((Tm.mk 1 tn 0 tl), (Tm.mk uk un us ul), 12) else ((Tm.mk 1 tn 0 tl), (Tm.mk uk un us ul), 0)) := by have h := HQ0.out; unfold oneU at h; rw [if_neg (by rw [hfit]; decide)] at h; exact h
      clear hfit
      have OC := roccurs3_any (Tm.mk 1 tn 0 tl) (Tm.mk uk un us ul) A A' c c' V ht hu (HRt.out V H4.out.bel) (HRu.out V H4.out.bel)
      obtain ⟨oc, hoc⟩ : ∃ v, v = occT (Tm.mk 1 tn 0 tl) (Tm.mk uk un us ul) := ⟨_, rfl⟩
      rw [← hoc] at OC HQ2
      clear hoc
      simp only [Tm.val, Tm.kind, Tm.name, Tm.sort, Tm.kids] at OC
      have OC := Lib.hid OC
      obtain ⟨a0, a1, a2, a3, af⟩ := box_at (show V.heap[w.heap.size]? = some (.cells #[.int .i64 1, .string tn, .int .i64 0, .slice A tl.length c] 24 (0, 0)) from H4.out.one)
      obtain ⟨b0, b1, b2, b3, bf⟩ := box_at (show V.heap[w.heap.size + 1]? = some (.cells #[.int .i64 uk, .string un, .int .i64 us, .slice A' ul.length c'] 24 (0, 0)) from H4.out.two)
      go_wp2_with fail
      refine OC.out.mono ?_; clear OC; clear a0 a1 a2 a3 af b0 b1 b2 b3 bf
      rintro e w7 ⟨rfl, hl7⟩
      have HF7 := Lib.hid (H4.out.keep (fun k hk1 hk2 => hl7.block k (by have := H4.out.lt; omega)) (below_then H4.out.bel hl7 H4.out.bel.size)); clear hl7
      obtain ⟨a0, a1, a2, a3, af⟩ := box_at (show w7.heap[w.heap.size]? = some (.cells #[.int .i64 1, .string tn, .int .i64 0, .slice A tl.length c] 24 (0, 0)) from HF7.out.one)
      obtain ⟨b0, b1, b2, b3, bf⟩ := box_at (show w7.heap[w.heap.size + 1]? = some (.cells #[.int .i64 uk, .string un, .int .i64 us, .slice A' ul.length c'] 24 (0, 0)) from HF7.out.two)
      cases oc with
      | true =>
        go_wp2_with fail
        clear a0 a1 a2 a3 af b0 b1 b2 b3 bf
        have hf0 : Four w (boxT (Tm.mk 1 tn 0 tl) A c) (boxT (Tm.mk uk un us ul) A' c') (.cells #[.int .i64 0, .string ⟨#[]⟩, .int .i64 0, .slice none 0 0] 24 (0, 0)) (.cells #[.int .i64 0, .string ⟨#[]⟩, .int .i64 0, .slice none 0 0] 24 (0, 0)) w7.drew := HF7.out.keep (fun _ _ _ => rfl) HF7.out.bel.drew
        refine wp_region_mix (fun Y => Y.heap[w.heap.size]? = some (boxT (Tm.mk 1 tn 0 tl) A c) ∧ Y.heap[w.heap.size + 1]? = some (boxT (Tm.mk uk un us ul) A' c')) 4 (.held 0 (.held 1 (.op 2 (.op 3 (.op 4 .nil))))) mixed (by kernel_rfl) ?_
        generalize w7.drew = D at *
        refine mix_take (v := .agg #[.int .i64 1, .string tn, .int .i64 0, .slice A tl.length c]) rfl rfl (fun _ _ _ h => h) ⟨hf0.one, hf0.two⟩ (fun Y hY => by
          obtain ⟨z0, z1, z2, z3, zf⟩ := box_at (show Y.heap[w.heap.size]? = some (.cells #[.int .i64 1, .string tn, .int .i64 0, .slice A tl.length c] 24 (0, 0)) from hY.1)
          (try simp only [Act.put]); go_simp) ?_
        refine mix_take (v := .agg #[.int .i64 uk, .string un, .int .i64 us, .slice A' ul.length c']) rfl rfl (fun _ _ _ h => h) ⟨hf0.one, hf0.two⟩ (fun Y hY => by
          obtain ⟨z0, z1, z2, z3, zf⟩ := box_at (show Y.heap[w.heap.size + 1]? = some (.cells #[.int .i64 uk, .string un, .int .i64 us, .slice A' ul.length c'] 24 (0, 0)) from hY.2)
          (try simp only [Act.put]); go_simp) ?_
        simp only [Act.put, List.setIfInBounds_toArray]
        obtain ⟨f0, f1, f2, f3, ff⟩ := box_at hf0.three
        refine mix_op rfl rfl (fun K hK => ?_)
        go_wp2_with fail
        have hf1 : Four w (boxT (Tm.mk 1 tn 0 tl) A c) (boxT (Tm.mk uk un us ul) A' c') (boxT (Tm.mk 1 tn 0 tl) A c) (.cells #[.int .i64 0, .string ⟨#[]⟩, .int .i64 0, .slice none 0 0] 24 (0, 0)) ((((D.setCell ⟨w.heap.size + 1 + 1, 0, none⟩ (.int .i64 1)).setCell ⟨w.heap.size + 1 + 1, 1, none⟩ (.string tn)).setCell ⟨w.heap.size + 1 + 1, 2, none⟩ (.int .i64 0)).setCell ⟨w.heap.size + 1 + 1, 3, none⟩ (.slice A tl.length c)) := hf0.res1 (Tm.mk 1 tn 0 tl) A c
        generalize ((((D.setCell ⟨w.heap.size + 1 + 1, 0, none⟩ (.int .i64 1)).setCell ⟨w.heap.size + 1 + 1, 1, none⟩ (.string tn)).setCell ⟨w.heap.size + 1 + 1, 2, none⟩ (.int .i64 0)).setCell ⟨w.heap.size + 1 + 1, 3, none⟩ (.slice A tl.length c)) = M1 at hf1 ⊢
        refine ⟨fun _ => ⟨hf1.one, hf1.two⟩, ?_⟩
        clear f0 f1 f2 f3 ff
        obtain ⟨g0, g1, g2, g3, gf⟩ := box_at hf1.four
        refine mix_op rfl rfl (fun K hK => ?_)
        go_wp2_with fail
        have hf2 : Four w (boxT (Tm.mk 1 tn 0 tl) A c) (boxT (Tm.mk uk un us ul) A' c') (boxT (Tm.mk 1 tn 0 tl) A c) (boxT (Tm.mk uk un us ul) A' c') ((((M1.setCell ⟨w.heap.size + 1 + 1 + 1, 0, none⟩ (.int .i64 uk)).setCell ⟨w.heap.size + 1 + 1 + 1, 1, none⟩ (.string un)).setCell ⟨w.heap.size + 1 + 1 + 1, 2, none⟩ (.int .i64 us)).setCell ⟨w.heap.size + 1 + 1 + 1, 3, none⟩ (.slice A' ul.length c')) := hf1.res2 (Tm.mk uk un us ul) A' c'
        generalize ((((M1.setCell ⟨w.heap.size + 1 + 1 + 1, 0, none⟩ (.int .i64 uk)).setCell ⟨w.heap.size + 1 + 1 + 1, 1, none⟩ (.string un)).setCell ⟨w.heap.size + 1 + 1 + 1, 2, none⟩ (.int .i64 us)).setCell ⟨w.heap.size + 1 + 1 + 1, 3, none⟩ (.slice A' ul.length c')) = M2 at hf2 ⊢
        refine ⟨fun _ => ⟨hf2.one, hf2.two⟩, ?_⟩
        clear g0 g1 g2 g3 gf
        refine mix_op rfl rfl (fun K hK => ?_)
        go_wp2_with fail
        refine ⟨fun h => absurd h (by decide), mix_nil ?_⟩
        obtain ⟨f0, f1, f2, f3, ff⟩ := box_at (show M2.heap[w.heap.size + 1 + 1]? = some (.cells #[.int .i64 1, .string tn, .int .i64 0, .slice A tl.length c] 24 (0, 0)) from hf2.three)
        obtain ⟨g0, g1, g2, g3, gf⟩ := box_at (show M2.heap[w.heap.size + 1 + 1 + 1]? = some (.cells #[.int .i64 uk, .string un, .int .i64 us, .slice A' ul.length c'] 24 (0, 0)) from hf2.four)
        go_wp2_with fail
        refine bodyPost_ret (v := .tuple #[.agg #[.int .i64 1, .string tn, .int .i64 0, .slice A tl.length c], .agg #[.int .i64 uk, .string un, .int .i64 us, .slice A' ul.length c'], .int .i64 12]) ?_ rfl ?_
        · simp [results, Tryz.results64, go_sem, f0, f1, f2, f3, g0, g1, g2, g3]
        have hq := HQ2.out.trans (if_pos trivial)
        exact ⟨(Tm.mk 1 tn 0 tl), A, c, (Tm.mk uk un us ul), A', c', by rw [hq]; rfl, .inl ⟨rfl, rfl, rfl, rfl, rfl, rfl⟩, fun h => by rw [hq] at h ⊢; first | exact ⟨rfl, rfl⟩ | exact absurd (show (12 : Int) = 0 from h) (by decide), hf2.bel⟩
      | false =>
        go_wp2_with fail
        clear a0 a1 a2 a3 af b0 b1 b2 b3 bf
        have hf0 : Four w (boxT (Tm.mk 1 tn 0 tl) A c) (boxT (Tm.mk uk un us ul) A' c') (.cells #[.int .i64 0, .string ⟨#[]⟩, .int .i64 0, .slice none 0 0] 24 (0, 0)) (.cells #[.int .i64 0, .string ⟨#[]⟩, .int .i64 0, .slice none 0 0] 24 (0, 0)) w7.drew := HF7.out.keep (fun _ _ _ => rfl) HF7.out.bel.drew
        refine wp_region_mix (fun Y => Y.heap[w.heap.size]? = some (boxT (Tm.mk 1 tn 0 tl) A c) ∧ Y.heap[w.heap.size + 1]? = some (boxT (Tm.mk uk un us ul) A' c')) 4 (.held 0 (.held 1 (.op 2 (.op 3 (.op 4 .nil))))) mixed (by kernel_rfl) ?_
        generalize w7.drew = D at *
        refine mix_take (v := .agg #[.int .i64 1, .string tn, .int .i64 0, .slice A tl.length c]) rfl rfl (fun _ _ _ h => h) ⟨hf0.one, hf0.two⟩ (fun Y hY => by
          obtain ⟨z0, z1, z2, z3, zf⟩ := box_at (show Y.heap[w.heap.size]? = some (.cells #[.int .i64 1, .string tn, .int .i64 0, .slice A tl.length c] 24 (0, 0)) from hY.1)
          (try simp only [Act.put]); go_simp) ?_
        refine mix_take (v := .agg #[.int .i64 uk, .string un, .int .i64 us, .slice A' ul.length c']) rfl rfl (fun _ _ _ h => h) ⟨hf0.one, hf0.two⟩ (fun Y hY => by
          obtain ⟨z0, z1, z2, z3, zf⟩ := box_at (show Y.heap[w.heap.size + 1]? = some (.cells #[.int .i64 uk, .string un, .int .i64 us, .slice A' ul.length c'] 24 (0, 0)) from hY.2)
          (try simp only [Act.put]); go_simp) ?_
        simp only [Act.put, List.setIfInBounds_toArray]
        obtain ⟨f0, f1, f2, f3, ff⟩ := box_at hf0.three
        refine mix_op rfl rfl (fun K hK => ?_)
        go_wp2_with fail
        have hf1 : Four w (boxT (Tm.mk 1 tn 0 tl) A c) (boxT (Tm.mk uk un us ul) A' c') (boxT (Tm.mk 1 tn 0 tl) A c) (.cells #[.int .i64 0, .string ⟨#[]⟩, .int .i64 0, .slice none 0 0] 24 (0, 0)) ((((D.setCell ⟨w.heap.size + 1 + 1, 0, none⟩ (.int .i64 1)).setCell ⟨w.heap.size + 1 + 1, 1, none⟩ (.string tn)).setCell ⟨w.heap.size + 1 + 1, 2, none⟩ (.int .i64 0)).setCell ⟨w.heap.size + 1 + 1, 3, none⟩ (.slice A tl.length c)) := hf0.res1 (Tm.mk 1 tn 0 tl) A c
        generalize ((((D.setCell ⟨w.heap.size + 1 + 1, 0, none⟩ (.int .i64 1)).setCell ⟨w.heap.size + 1 + 1, 1, none⟩ (.string tn)).setCell ⟨w.heap.size + 1 + 1, 2, none⟩ (.int .i64 0)).setCell ⟨w.heap.size + 1 + 1, 3, none⟩ (.slice A tl.length c)) = M1 at hf1 ⊢
        refine ⟨fun _ => ⟨hf1.one, hf1.two⟩, ?_⟩
        clear f0 f1 f2 f3 ff
        obtain ⟨g0, g1, g2, g3, gf⟩ := box_at hf1.four
        refine mix_op rfl rfl (fun K hK => ?_)
        go_wp2_with fail
        have hf2 : Four w (boxT (Tm.mk 1 tn 0 tl) A c) (boxT (Tm.mk uk un us ul) A' c') (boxT (Tm.mk 1 tn 0 tl) A c) (boxT (Tm.mk uk un us ul) A' c') ((((M1.setCell ⟨w.heap.size + 1 + 1 + 1, 0, none⟩ (.int .i64 uk)).setCell ⟨w.heap.size + 1 + 1 + 1, 1, none⟩ (.string un)).setCell ⟨w.heap.size + 1 + 1 + 1, 2, none⟩ (.int .i64 us)).setCell ⟨w.heap.size + 1 + 1 + 1, 3, none⟩ (.slice A' ul.length c')) := hf1.res2 (Tm.mk uk un us ul) A' c'
        generalize ((((M1.setCell ⟨w.heap.size + 1 + 1 + 1, 0, none⟩ (.int .i64 uk)).setCell ⟨w.heap.size + 1 + 1 + 1, 1, none⟩ (.string un)).setCell ⟨w.heap.size + 1 + 1 + 1, 2, none⟩ (.int .i64 us)).setCell ⟨w.heap.size + 1 + 1 + 1, 3, none⟩ (.slice A' ul.length c')) = M2 at hf2 ⊢
        refine ⟨fun _ => ⟨hf2.one, hf2.two⟩, ?_⟩
        clear g0 g1 g2 g3 gf
        refine mix_op rfl rfl (fun K hK => ?_)
        go_wp2_with fail
        refine ⟨fun h => absurd h (by decide), mix_nil ?_⟩
        obtain ⟨f0, f1, f2, f3, ff⟩ := box_at (show M2.heap[w.heap.size + 1 + 1]? = some (.cells #[.int .i64 1, .string tn, .int .i64 0, .slice A tl.length c] 24 (0, 0)) from hf2.three)
        obtain ⟨g0, g1, g2, g3, gf⟩ := box_at (show M2.heap[w.heap.size + 1 + 1 + 1]? = some (.cells #[.int .i64 uk, .string un, .int .i64 us, .slice A' ul.length c'] 24 (0, 0)) from hf2.four)
        go_wp2_with fail
        refine bodyPost_ret (v := .tuple #[.agg #[.int .i64 1, .string tn, .int .i64 0, .slice A tl.length c], .agg #[.int .i64 uk, .string un, .int .i64 us, .slice A' ul.length c'], .int .i64 0]) ?_ rfl ?_
        · simp [results, Tryz.results64, go_sem, f0, f1, f2, f3, g0, g1, g2, g3]
        have hq := HQ2.out.trans (if_neg (by decide))
        exact ⟨(Tm.mk 1 tn 0 tl), A, c, (Tm.mk uk un us ul), A', c', by rw [hq]; rfl, .inl ⟨rfl, rfl, rfl, rfl, rfl, rfl⟩, fun h => by rw [hq] at h ⊢; first | exact ⟨rfl, rfl⟩ | exact absurd (show (0 : Int) = 0 from h) (by decide), hf2.bel⟩
    · skip
      rcases eq_facts uk 2 with ⟨k0, k1, k2⟩ | ⟨k0, k1, k2⟩
      · subst k0
        rcases eq_facts us ts with ⟨r0, r1, r2⟩ | ⟨r0, r1, r2⟩
        · subst r0
          have hfit : fits (Tm.mk 1 tn us tl) (Tm.mk 2 un us ul) = true := fits_yes HVT.out HVU.out rfl (.inr ⟨by show (2 : Int) ≠ 3; decide, rfl⟩)
          have HQ2 : Hid (q = if occT (Tm.mk 1 tn us tl) (Tm.mk 2 un us ul) = true then ((Tm.mk 1 tn us tl), (Tm.mk 2 un us ul), 12) else ((Tm.mk 1 tn us tl), (Tm.mk 2 un us ul), 0)) := by have h := HQ0.out; unfold oneU at h; rw [if_neg (by rw [hfit]; decide)] at h; exact h
          clear hfit
          have OC := roccurs3_any (Tm.mk 1 tn us tl) (Tm.mk 2 un us ul) A A' c c' V ht hu (HRt.out V H4.out.bel) (HRu.out V H4.out.bel)
          obtain ⟨oc, hoc⟩ : ∃ v, v = occT (Tm.mk 1 tn us tl) (Tm.mk 2 un us ul) := ⟨_, rfl⟩
          rw [← hoc] at OC HQ2
          clear hoc
          simp only [Tm.val, Tm.kind, Tm.name, Tm.sort, Tm.kids] at OC
          have OC := Lib.hid OC
          obtain ⟨a0, a1, a2, a3, af⟩ := box_at (show V.heap[w.heap.size]? = some (.cells #[.int .i64 1, .string tn, .int .i64 us, .slice A tl.length c] 24 (0, 0)) from H4.out.one)
          obtain ⟨b0, b1, b2, b3, bf⟩ := box_at (show V.heap[w.heap.size + 1]? = some (.cells #[.int .i64 2, .string un, .int .i64 us, .slice A' ul.length c'] 24 (0, 0)) from H4.out.two)
          go_wp2_with fail
          refine OC.out.mono ?_; clear OC; clear a0 a1 a2 a3 af b0 b1 b2 b3 bf
          rintro e w7 ⟨rfl, hl7⟩
          have HF7 := Lib.hid (H4.out.keep (fun k hk1 hk2 => hl7.block k (by have := H4.out.lt; omega)) (below_then H4.out.bel hl7 H4.out.bel.size)); clear hl7
          obtain ⟨a0, a1, a2, a3, af⟩ := box_at (show w7.heap[w.heap.size]? = some (.cells #[.int .i64 1, .string tn, .int .i64 us, .slice A tl.length c] 24 (0, 0)) from HF7.out.one)
          obtain ⟨b0, b1, b2, b3, bf⟩ := box_at (show w7.heap[w.heap.size + 1]? = some (.cells #[.int .i64 2, .string un, .int .i64 us, .slice A' ul.length c'] 24 (0, 0)) from HF7.out.two)
          cases oc with
          | true =>
            go_wp2_with fail
            clear a0 a1 a2 a3 af b0 b1 b2 b3 bf
            have hf0 : Four w (boxT (Tm.mk 1 tn us tl) A c) (boxT (Tm.mk 2 un us ul) A' c') (.cells #[.int .i64 0, .string ⟨#[]⟩, .int .i64 0, .slice none 0 0] 24 (0, 0)) (.cells #[.int .i64 0, .string ⟨#[]⟩, .int .i64 0, .slice none 0 0] 24 (0, 0)) w7.drew := HF7.out.keep (fun _ _ _ => rfl) HF7.out.bel.drew
            refine wp_region_mix (fun Y => Y.heap[w.heap.size]? = some (boxT (Tm.mk 1 tn us tl) A c) ∧ Y.heap[w.heap.size + 1]? = some (boxT (Tm.mk 2 un us ul) A' c')) 4 (.held 0 (.held 1 (.op 2 (.op 3 (.op 4 .nil))))) mixed (by kernel_rfl) ?_
            generalize w7.drew = D at *
            refine mix_take (v := .agg #[.int .i64 1, .string tn, .int .i64 us, .slice A tl.length c]) rfl rfl (fun _ _ _ h => h) ⟨hf0.one, hf0.two⟩ (fun Y hY => by
              obtain ⟨z0, z1, z2, z3, zf⟩ := box_at (show Y.heap[w.heap.size]? = some (.cells #[.int .i64 1, .string tn, .int .i64 us, .slice A tl.length c] 24 (0, 0)) from hY.1)
              (try simp only [Act.put]); go_simp) ?_
            refine mix_take (v := .agg #[.int .i64 2, .string un, .int .i64 us, .slice A' ul.length c']) rfl rfl (fun _ _ _ h => h) ⟨hf0.one, hf0.two⟩ (fun Y hY => by
              obtain ⟨z0, z1, z2, z3, zf⟩ := box_at (show Y.heap[w.heap.size + 1]? = some (.cells #[.int .i64 2, .string un, .int .i64 us, .slice A' ul.length c'] 24 (0, 0)) from hY.2)
              (try simp only [Act.put]); go_simp) ?_
            simp only [Act.put, List.setIfInBounds_toArray]
            obtain ⟨f0, f1, f2, f3, ff⟩ := box_at hf0.three
            refine mix_op rfl rfl (fun K hK => ?_)
            go_wp2_with fail
            have hf1 : Four w (boxT (Tm.mk 1 tn us tl) A c) (boxT (Tm.mk 2 un us ul) A' c') (boxT (Tm.mk 1 tn us tl) A c) (.cells #[.int .i64 0, .string ⟨#[]⟩, .int .i64 0, .slice none 0 0] 24 (0, 0)) ((((D.setCell ⟨w.heap.size + 1 + 1, 0, none⟩ (.int .i64 1)).setCell ⟨w.heap.size + 1 + 1, 1, none⟩ (.string tn)).setCell ⟨w.heap.size + 1 + 1, 2, none⟩ (.int .i64 us)).setCell ⟨w.heap.size + 1 + 1, 3, none⟩ (.slice A tl.length c)) := hf0.res1 (Tm.mk 1 tn us tl) A c
            generalize ((((D.setCell ⟨w.heap.size + 1 + 1, 0, none⟩ (.int .i64 1)).setCell ⟨w.heap.size + 1 + 1, 1, none⟩ (.string tn)).setCell ⟨w.heap.size + 1 + 1, 2, none⟩ (.int .i64 us)).setCell ⟨w.heap.size + 1 + 1, 3, none⟩ (.slice A tl.length c)) = M1 at hf1 ⊢
            refine ⟨fun _ => ⟨hf1.one, hf1.two⟩, ?_⟩
            clear f0 f1 f2 f3 ff
            obtain ⟨g0, g1, g2, g3, gf⟩ := box_at hf1.four
            refine mix_op rfl rfl (fun K hK => ?_)
            go_wp2_with fail
            have hf2 : Four w (boxT (Tm.mk 1 tn us tl) A c) (boxT (Tm.mk 2 un us ul) A' c') (boxT (Tm.mk 1 tn us tl) A c) (boxT (Tm.mk 2 un us ul) A' c') ((((M1.setCell ⟨w.heap.size + 1 + 1 + 1, 0, none⟩ (.int .i64 2)).setCell ⟨w.heap.size + 1 + 1 + 1, 1, none⟩ (.string un)).setCell ⟨w.heap.size + 1 + 1 + 1, 2, none⟩ (.int .i64 us)).setCell ⟨w.heap.size + 1 + 1 + 1, 3, none⟩ (.slice A' ul.length c')) := hf1.res2 (Tm.mk 2 un us ul) A' c'
            generalize ((((M1.setCell ⟨w.heap.size + 1 + 1 + 1, 0, none⟩ (.int .i64 2)).setCell ⟨w.heap.size + 1 + 1 + 1, 1, none⟩ (.string un)).setCell ⟨w.heap.size + 1 + 1 + 1, 2, none⟩ (.int .i64 us)).setCell ⟨w.heap.size + 1 + 1 + 1, 3, none⟩ (.slice A' ul.length c')) = M2 at hf2 ⊢
            refine ⟨fun _ => ⟨hf2.one, hf2.two⟩, ?_⟩
            clear g0 g1 g2 g3 gf
            refine mix_op rfl rfl (fun K hK => ?_)
            go_wp2_with fail
            refine ⟨fun h => absurd h (by decide), mix_nil ?_⟩
            obtain ⟨f0, f1, f2, f3, ff⟩ := box_at (show M2.heap[w.heap.size + 1 + 1]? = some (.cells #[.int .i64 1, .string tn, .int .i64 us, .slice A tl.length c] 24 (0, 0)) from hf2.three)
            obtain ⟨g0, g1, g2, g3, gf⟩ := box_at (show M2.heap[w.heap.size + 1 + 1 + 1]? = some (.cells #[.int .i64 2, .string un, .int .i64 us, .slice A' ul.length c'] 24 (0, 0)) from hf2.four)
            go_wp2_with fail
            refine bodyPost_ret (v := .tuple #[.agg #[.int .i64 1, .string tn, .int .i64 us, .slice A tl.length c], .agg #[.int .i64 2, .string un, .int .i64 us, .slice A' ul.length c'], .int .i64 12]) ?_ rfl ?_
            · simp [results, Tryz.results64, go_sem, f0, f1, f2, f3, g0, g1, g2, g3]
            have hq := HQ2.out.trans (if_pos trivial)
            exact ⟨(Tm.mk 1 tn us tl), A, c, (Tm.mk 2 un us ul), A', c', by rw [hq]; rfl, .inl ⟨rfl, rfl, rfl, rfl, rfl, rfl⟩, fun h => by rw [hq] at h ⊢; first | exact ⟨rfl, rfl⟩ | exact absurd (show (12 : Int) = 0 from h) (by decide), hf2.bel⟩
          | false =>
            go_wp2_with fail
            clear a0 a1 a2 a3 af b0 b1 b2 b3 bf
            have hf0 : Four w (boxT (Tm.mk 1 tn us tl) A c) (boxT (Tm.mk 2 un us ul) A' c') (.cells #[.int .i64 0, .string ⟨#[]⟩, .int .i64 0, .slice none 0 0] 24 (0, 0)) (.cells #[.int .i64 0, .string ⟨#[]⟩, .int .i64 0, .slice none 0 0] 24 (0, 0)) w7.drew := HF7.out.keep (fun _ _ _ => rfl) HF7.out.bel.drew
            refine wp_region_mix (fun Y => Y.heap[w.heap.size]? = some (boxT (Tm.mk 1 tn us tl) A c) ∧ Y.heap[w.heap.size + 1]? = some (boxT (Tm.mk 2 un us ul) A' c')) 4 (.held 0 (.held 1 (.op 2 (.op 3 (.op 4 .nil))))) mixed (by kernel_rfl) ?_
            generalize w7.drew = D at *
            refine mix_take (v := .agg #[.int .i64 1, .string tn, .int .i64 us, .slice A tl.length c]) rfl rfl (fun _ _ _ h => h) ⟨hf0.one, hf0.two⟩ (fun Y hY => by
              obtain ⟨z0, z1, z2, z3, zf⟩ := box_at (show Y.heap[w.heap.size]? = some (.cells #[.int .i64 1, .string tn, .int .i64 us, .slice A tl.length c] 24 (0, 0)) from hY.1)
              (try simp only [Act.put]); go_simp) ?_
            refine mix_take (v := .agg #[.int .i64 2, .string un, .int .i64 us, .slice A' ul.length c']) rfl rfl (fun _ _ _ h => h) ⟨hf0.one, hf0.two⟩ (fun Y hY => by
              obtain ⟨z0, z1, z2, z3, zf⟩ := box_at (show Y.heap[w.heap.size + 1]? = some (.cells #[.int .i64 2, .string un, .int .i64 us, .slice A' ul.length c'] 24 (0, 0)) from hY.2)
              (try simp only [Act.put]); go_simp) ?_
            simp only [Act.put, List.setIfInBounds_toArray]
            obtain ⟨f0, f1, f2, f3, ff⟩ := box_at hf0.three
            refine mix_op rfl rfl (fun K hK => ?_)
            go_wp2_with fail
            have hf1 : Four w (boxT (Tm.mk 1 tn us tl) A c) (boxT (Tm.mk 2 un us ul) A' c') (boxT (Tm.mk 1 tn us tl) A c) (.cells #[.int .i64 0, .string ⟨#[]⟩, .int .i64 0, .slice none 0 0] 24 (0, 0)) ((((D.setCell ⟨w.heap.size + 1 + 1, 0, none⟩ (.int .i64 1)).setCell ⟨w.heap.size + 1 + 1, 1, none⟩ (.string tn)).setCell ⟨w.heap.size + 1 + 1, 2, none⟩ (.int .i64 us)).setCell ⟨w.heap.size + 1 + 1, 3, none⟩ (.slice A tl.length c)) := hf0.res1 (Tm.mk 1 tn us tl) A c
            generalize ((((D.setCell ⟨w.heap.size + 1 + 1, 0, none⟩ (.int .i64 1)).setCell ⟨w.heap.size + 1 + 1, 1, none⟩ (.string tn)).setCell ⟨w.heap.size + 1 + 1, 2, none⟩ (.int .i64 us)).setCell ⟨w.heap.size + 1 + 1, 3, none⟩ (.slice A tl.length c)) = M1 at hf1 ⊢
            refine ⟨fun _ => ⟨hf1.one, hf1.two⟩, ?_⟩
            clear f0 f1 f2 f3 ff
            obtain ⟨g0, g1, g2, g3, gf⟩ := box_at hf1.four
            refine mix_op rfl rfl (fun K hK => ?_)
            go_wp2_with fail
            have hf2 : Four w (boxT (Tm.mk 1 tn us tl) A c) (boxT (Tm.mk 2 un us ul) A' c') (boxT (Tm.mk 1 tn us tl) A c) (boxT (Tm.mk 2 un us ul) A' c') ((((M1.setCell ⟨w.heap.size + 1 + 1 + 1, 0, none⟩ (.int .i64 2)).setCell ⟨w.heap.size + 1 + 1 + 1, 1, none⟩ (.string un)).setCell ⟨w.heap.size + 1 + 1 + 1, 2, none⟩ (.int .i64 us)).setCell ⟨w.heap.size + 1 + 1 + 1, 3, none⟩ (.slice A' ul.length c')) := hf1.res2 (Tm.mk 2 un us ul) A' c'
            generalize ((((M1.setCell ⟨w.heap.size + 1 + 1 + 1, 0, none⟩ (.int .i64 2)).setCell ⟨w.heap.size + 1 + 1 + 1, 1, none⟩ (.string un)).setCell ⟨w.heap.size + 1 + 1 + 1, 2, none⟩ (.int .i64 us)).setCell ⟨w.heap.size + 1 + 1 + 1, 3, none⟩ (.slice A' ul.length c')) = M2 at hf2 ⊢
            refine ⟨fun _ => ⟨hf2.one, hf2.two⟩, ?_⟩
            clear g0 g1 g2 g3 gf
            refine mix_op rfl rfl (fun K hK => ?_)
            go_wp2_with fail
            refine ⟨fun h => absurd h (by decide), mix_nil ?_⟩
            obtain ⟨f0, f1, f2, f3, ff⟩ := box_at (show M2.heap[w.heap.size + 1 + 1]? = some (.cells #[.int .i64 1, .string tn, .int .i64 us, .slice A tl.length c] 24 (0, 0)) from hf2.three)
            obtain ⟨g0, g1, g2, g3, gf⟩ := box_at (show M2.heap[w.heap.size + 1 + 1 + 1]? = some (.cells #[.int .i64 2, .string un, .int .i64 us, .slice A' ul.length c'] 24 (0, 0)) from hf2.four)
            go_wp2_with fail
            refine bodyPost_ret (v := .tuple #[.agg #[.int .i64 1, .string tn, .int .i64 us, .slice A tl.length c], .agg #[.int .i64 2, .string un, .int .i64 us, .slice A' ul.length c'], .int .i64 0]) ?_ rfl ?_
            · simp [results, Tryz.results64, go_sem, f0, f1, f2, f3, g0, g1, g2, g3]
            have hq := HQ2.out.trans (if_neg (by decide))
            exact ⟨(Tm.mk 1 tn us tl), A, c, (Tm.mk 2 un us ul), A', c', by rw [hq]; rfl, .inl ⟨rfl, rfl, rfl, rfl, rfl, rfl⟩, fun h => by rw [hq] at h ⊢; first | exact ⟨rfl, rfl⟩ | exact absurd (show (0 : Int) = 0 from h) (by decide), hf2.bel⟩
        · skip
          have hfit : fits (Tm.mk 1 tn ts tl) (Tm.mk 2 un us ul) = false := fits_no s0 (fun h => r0 h.2)
          have HQ2 : Hid (q = ((Tm.mk 1 tn ts tl), (Tm.mk 2 un us ul), 11)) := by have h := HQ0.out; unfold oneU at h; rw [if_pos hfit] at h; exact h
          clear hfit
          obtain ⟨a0, a1, a2, a3, af⟩ := box_at (show V.heap[w.heap.size]? = some (.cells #[.int .i64 1, .string tn, .int .i64 ts, .slice A tl.length c] 24 (0, 0)) from H4.out.one)
          obtain ⟨b0, b1, b2, b3, bf⟩ := box_at (show V.heap[w.heap.size + 1]? = some (.cells #[.int .i64 2, .string un, .int .i64 us, .slice A' ul.length c'] 24 (0, 0)) from H4.out.two)
          go_wp2_with fail
          clear a0 a1 a2 a3 af b0 b1 b2 b3 bf
          have hf0 : Four w (boxT (Tm.mk 1 tn ts tl) A c) (boxT (Tm.mk 2 un us ul) A' c') (.cells #[.int .i64 0, .string ⟨#[]⟩, .int .i64 0, .slice none 0 0] 24 (0, 0)) (.cells #[.int .i64 0, .string ⟨#[]⟩, .int .i64 0, .slice none 0 0] 24 (0, 0)) V.drew := H4.out.keep (fun _ _ _ => rfl) H4.out.bel.drew
          refine wp_region_mix (fun Y => Y.heap[w.heap.size]? = some (boxT (Tm.mk 1 tn ts tl) A c) ∧ Y.heap[w.heap.size + 1]? = some (boxT (Tm.mk 2 un us ul) A' c')) 4 (.held 0 (.held 1 (.op 2 (.op 3 (.op 4 .nil))))) mixed (by kernel_rfl) ?_
          generalize V.drew = D at *
          refine mix_take (v := .agg #[.int .i64 1, .string tn, .int .i64 ts, .slice A tl.length c]) rfl rfl (fun _ _ _ h => h) ⟨hf0.one, hf0.two⟩ (fun Y hY => by
            obtain ⟨z0, z1, z2, z3, zf⟩ := box_at (show Y.heap[w.heap.size]? = some (.cells #[.int .i64 1, .string tn, .int .i64 ts, .slice A tl.length c] 24 (0, 0)) from hY.1)
            (try simp only [Act.put]); go_simp) ?_
          refine mix_take (v := .agg #[.int .i64 2, .string un, .int .i64 us, .slice A' ul.length c']) rfl rfl (fun _ _ _ h => h) ⟨hf0.one, hf0.two⟩ (fun Y hY => by
            obtain ⟨z0, z1, z2, z3, zf⟩ := box_at (show Y.heap[w.heap.size + 1]? = some (.cells #[.int .i64 2, .string un, .int .i64 us, .slice A' ul.length c'] 24 (0, 0)) from hY.2)
            (try simp only [Act.put]); go_simp) ?_
          simp only [Act.put, List.setIfInBounds_toArray]
          obtain ⟨f0, f1, f2, f3, ff⟩ := box_at hf0.three
          refine mix_op rfl rfl (fun K hK => ?_)
          go_wp2_with fail
          have hf1 : Four w (boxT (Tm.mk 1 tn ts tl) A c) (boxT (Tm.mk 2 un us ul) A' c') (boxT (Tm.mk 1 tn ts tl) A c) (.cells #[.int .i64 0, .string ⟨#[]⟩, .int .i64 0, .slice none 0 0] 24 (0, 0)) ((((D.setCell ⟨w.heap.size + 1 + 1, 0, none⟩ (.int .i64 1)).setCell ⟨w.heap.size + 1 + 1, 1, none⟩ (.string tn)).setCell ⟨w.heap.size + 1 + 1, 2, none⟩ (.int .i64 ts)).setCell ⟨w.heap.size + 1 + 1, 3, none⟩ (.slice A tl.length c)) := hf0.res1 (Tm.mk 1 tn ts tl) A c
          generalize ((((D.setCell ⟨w.heap.size + 1 + 1, 0, none⟩ (.int .i64 1)).setCell ⟨w.heap.size + 1 + 1, 1, none⟩ (.string tn)).setCell ⟨w.heap.size + 1 + 1, 2, none⟩ (.int .i64 ts)).setCell ⟨w.heap.size + 1 + 1, 3, none⟩ (.slice A tl.length c)) = M1 at hf1 ⊢
          refine ⟨fun _ => ⟨hf1.one, hf1.two⟩, ?_⟩
          clear f0 f1 f2 f3 ff
          obtain ⟨g0, g1, g2, g3, gf⟩ := box_at hf1.four
          refine mix_op rfl rfl (fun K hK => ?_)
          go_wp2_with fail
          have hf2 : Four w (boxT (Tm.mk 1 tn ts tl) A c) (boxT (Tm.mk 2 un us ul) A' c') (boxT (Tm.mk 1 tn ts tl) A c) (boxT (Tm.mk 2 un us ul) A' c') ((((M1.setCell ⟨w.heap.size + 1 + 1 + 1, 0, none⟩ (.int .i64 2)).setCell ⟨w.heap.size + 1 + 1 + 1, 1, none⟩ (.string un)).setCell ⟨w.heap.size + 1 + 1 + 1, 2, none⟩ (.int .i64 us)).setCell ⟨w.heap.size + 1 + 1 + 1, 3, none⟩ (.slice A' ul.length c')) := hf1.res2 (Tm.mk 2 un us ul) A' c'
          generalize ((((M1.setCell ⟨w.heap.size + 1 + 1 + 1, 0, none⟩ (.int .i64 2)).setCell ⟨w.heap.size + 1 + 1 + 1, 1, none⟩ (.string un)).setCell ⟨w.heap.size + 1 + 1 + 1, 2, none⟩ (.int .i64 us)).setCell ⟨w.heap.size + 1 + 1 + 1, 3, none⟩ (.slice A' ul.length c')) = M2 at hf2 ⊢
          refine ⟨fun _ => ⟨hf2.one, hf2.two⟩, ?_⟩
          clear g0 g1 g2 g3 gf
          refine mix_op rfl rfl (fun K hK => ?_)
          go_wp2_with fail
          refine ⟨fun h => absurd h (by decide), mix_nil ?_⟩
          obtain ⟨f0, f1, f2, f3, ff⟩ := box_at (show M2.heap[w.heap.size + 1 + 1]? = some (.cells #[.int .i64 1, .string tn, .int .i64 ts, .slice A tl.length c] 24 (0, 0)) from hf2.three)
          obtain ⟨g0, g1, g2, g3, gf⟩ := box_at (show M2.heap[w.heap.size + 1 + 1 + 1]? = some (.cells #[.int .i64 2, .string un, .int .i64 us, .slice A' ul.length c'] 24 (0, 0)) from hf2.four)
          go_wp2_with fail
          refine bodyPost_ret (v := .tuple #[.agg #[.int .i64 1, .string tn, .int .i64 ts, .slice A tl.length c], .agg #[.int .i64 2, .string un, .int .i64 us, .slice A' ul.length c'], .int .i64 11]) ?_ rfl ?_
          · simp [results, Tryz.results64, go_sem, f0, f1, f2, f3, g0, g1, g2, g3]
          have hq := HQ2.out
          exact ⟨(Tm.mk 1 tn ts tl), A, c, (Tm.mk 2 un us ul), A', c', by rw [hq]; rfl, .inl ⟨rfl, rfl, rfl, rfl, rfl, rfl⟩, fun h => by rw [hq] at h ⊢; first | exact ⟨rfl, rfl⟩ | exact absurd (show (11 : Int) = 0 from h) (by decide), hf2.bel⟩
      · skip
        have hfit : fits (Tm.mk 1 tn ts tl) (Tm.mk uk un us ul) = false := fits_no s0 (fun h => k0 (by rcases kinds3 HVU.out with h3 | h3 | h3 <;> first | exact absurd h3 KY.out | exact h3 | exact absurd h3 h.1))
        have HQ2 : Hid (q = ((Tm.mk 1 tn ts tl), (Tm.mk uk un us ul), 11)) := by have h := HQ0.out; unfold oneU at h; rw [if_pos hfit] at h; exact h
        clear hfit
        obtain ⟨a0, a1, a2, a3, af⟩ := box_at (show V.heap[w.heap.size]? = some (.cells #[.int .i64 1, .string tn, .int .i64 ts, .slice A tl.length c] 24 (0, 0)) from H4.out.one)
        obtain ⟨b0, b1, b2, b3, bf⟩ := box_at (show V.heap[w.heap.size + 1]? = some (.cells #[.int .i64 uk, .string un, .int .i64 us, .slice A' ul.length c'] 24 (0, 0)) from H4.out.two)
        go_wp2_with fail
        clear a0 a1 a2 a3 af b0 b1 b2 b3 bf
        have hf0 : Four w (boxT (Tm.mk 1 tn ts tl) A c) (boxT (Tm.mk uk un us ul) A' c') (.cells #[.int .i64 0, .string ⟨#[]⟩, .int .i64 0, .slice none 0 0] 24 (0, 0)) (.cells #[.int .i64 0, .string ⟨#[]⟩, .int .i64 0, .slice none 0 0] 24 (0, 0)) V.drew := H4.out.keep (fun _ _ _ => rfl) H4.out.bel.drew
        refine wp_region_mix (fun Y => Y.heap[w.heap.size]? = some (boxT (Tm.mk 1 tn ts tl) A c) ∧ Y.heap[w.heap.size + 1]? = some (boxT (Tm.mk uk un us ul) A' c')) 4 (.held 0 (.held 1 (.op 2 (.op 3 (.op 4 .nil))))) mixed (by kernel_rfl) ?_
        generalize V.drew = D at *
        refine mix_take (v := .agg #[.int .i64 1, .string tn, .int .i64 ts, .slice A tl.length c]) rfl rfl (fun _ _ _ h => h) ⟨hf0.one, hf0.two⟩ (fun Y hY => by
          obtain ⟨z0, z1, z2, z3, zf⟩ := box_at (show Y.heap[w.heap.size]? = some (.cells #[.int .i64 1, .string tn, .int .i64 ts, .slice A tl.length c] 24 (0, 0)) from hY.1)
          (try simp only [Act.put]); go_simp) ?_
        refine mix_take (v := .agg #[.int .i64 uk, .string un, .int .i64 us, .slice A' ul.length c']) rfl rfl (fun _ _ _ h => h) ⟨hf0.one, hf0.two⟩ (fun Y hY => by
          obtain ⟨z0, z1, z2, z3, zf⟩ := box_at (show Y.heap[w.heap.size + 1]? = some (.cells #[.int .i64 uk, .string un, .int .i64 us, .slice A' ul.length c'] 24 (0, 0)) from hY.2)
          (try simp only [Act.put]); go_simp) ?_
        simp only [Act.put, List.setIfInBounds_toArray]
        obtain ⟨f0, f1, f2, f3, ff⟩ := box_at hf0.three
        refine mix_op rfl rfl (fun K hK => ?_)
        go_wp2_with fail
        have hf1 : Four w (boxT (Tm.mk 1 tn ts tl) A c) (boxT (Tm.mk uk un us ul) A' c') (boxT (Tm.mk 1 tn ts tl) A c) (.cells #[.int .i64 0, .string ⟨#[]⟩, .int .i64 0, .slice none 0 0] 24 (0, 0)) ((((D.setCell ⟨w.heap.size + 1 + 1, 0, none⟩ (.int .i64 1)).setCell ⟨w.heap.size + 1 + 1, 1, none⟩ (.string tn)).setCell ⟨w.heap.size + 1 + 1, 2, none⟩ (.int .i64 ts)).setCell ⟨w.heap.size + 1 + 1, 3, none⟩ (.slice A tl.length c)) := hf0.res1 (Tm.mk 1 tn ts tl) A c
        generalize ((((D.setCell ⟨w.heap.size + 1 + 1, 0, none⟩ (.int .i64 1)).setCell ⟨w.heap.size + 1 + 1, 1, none⟩ (.string tn)).setCell ⟨w.heap.size + 1 + 1, 2, none⟩ (.int .i64 ts)).setCell ⟨w.heap.size + 1 + 1, 3, none⟩ (.slice A tl.length c)) = M1 at hf1 ⊢
        refine ⟨fun _ => ⟨hf1.one, hf1.two⟩, ?_⟩
        clear f0 f1 f2 f3 ff
        obtain ⟨g0, g1, g2, g3, gf⟩ := box_at hf1.four
        refine mix_op rfl rfl (fun K hK => ?_)
        go_wp2_with fail
        have hf2 : Four w (boxT (Tm.mk 1 tn ts tl) A c) (boxT (Tm.mk uk un us ul) A' c') (boxT (Tm.mk 1 tn ts tl) A c) (boxT (Tm.mk uk un us ul) A' c') ((((M1.setCell ⟨w.heap.size + 1 + 1 + 1, 0, none⟩ (.int .i64 uk)).setCell ⟨w.heap.size + 1 + 1 + 1, 1, none⟩ (.string un)).setCell ⟨w.heap.size + 1 + 1 + 1, 2, none⟩ (.int .i64 us)).setCell ⟨w.heap.size + 1 + 1 + 1, 3, none⟩ (.slice A' ul.length c')) := hf1.res2 (Tm.mk uk un us ul) A' c'
        generalize ((((M1.setCell ⟨w.heap.size + 1 + 1 + 1, 0, none⟩ (.int .i64 uk)).setCell ⟨w.heap.size + 1 + 1 + 1, 1, none⟩ (.string un)).setCell ⟨w.heap.size + 1 + 1 + 1, 2, none⟩ (.int .i64 us)).setCell ⟨w.heap.size + 1 + 1 + 1, 3, none⟩ (.slice A' ul.length c')) = M2 at hf2 ⊢
        refine ⟨fun _ => ⟨hf2.one, hf2.two⟩, ?_⟩
        clear g0 g1 g2 g3 gf
        refine mix_op rfl rfl (fun K hK => ?_)
        go_wp2_with fail
        refine ⟨fun h => absurd h (by decide), mix_nil ?_⟩
        obtain ⟨f0, f1, f2, f3, ff⟩ := box_at (show M2.heap[w.heap.size + 1 + 1]? = some (.cells #[.int .i64 1, .string tn, .int .i64 ts, .slice A tl.length c] 24 (0, 0)) from hf2.three)
        obtain ⟨g0, g1, g2, g3, gf⟩ := box_at (show M2.heap[w.heap.size + 1 + 1 + 1]? = some (.cells #[.int .i64 uk, .string un, .int .i64 us, .slice A' ul.length c'] 24 (0, 0)) from hf2.four)
        go_wp2_with fail
        refine bodyPost_ret (v := .tuple #[.agg #[.int .i64 1, .string tn, .int .i64 ts, .slice A tl.length c], .agg #[.int .i64 uk, .string un, .int .i64 us, .slice A' ul.length c'], .int .i64 11]) ?_ rfl ?_
        · simp [results, Tryz.results64, go_sem, f0, f1, f2, f3, g0, g1, g2, g3]
        have hq := HQ2.out
        exact ⟨(Tm.mk 1 tn ts tl), A, c, (Tm.mk uk un us ul), A', c', by rw [hq]; rfl, .inl ⟨rfl, rfl, rfl, rfl, rfl, rfl⟩, fun h => by rw [hq] at h ⊢; first | exact ⟨rfl, rfl⟩ | exact absurd (show (11 : Int) = 0 from h) (by decide), hf2.bel⟩
  · subst ku; clear ku1 ku2
    have HQ0 : Hid (q = oneU (Tm.mk 1 un us ul) (Tm.mk tk tn ts tl)) := (HQ.out.trans (if_neg kt)).trans (if_pos rfl)
    clear HQ
    have KY := Lib.hid kt; clear kt
    obtain ⟨a0, a1, a2, a3, af⟩ := box_at (show V.heap[w.heap.size]? = some (.cells #[.int .i64 tk, .string tn, .int .i64 ts, .slice A tl.length c] 24 (0, 0)) from H4.out.one)
    obtain ⟨b0, b1, b2, b3, bf⟩ := box_at (show V.heap[w.heap.size + 1]? = some (.cells #[.int .i64 1, .string un, .int .i64 us, .slice A' ul.length c'] 24 (0, 0)) from H4.out.two)
    refine wp_seq_k (fun K hK => ?_)
    refine region_cutU (fun a0 a' w' => a' = (((((a0.put (some 7) (.pointer (some ⟨w.heap.size, 0, none⟩))).put (some 8) (.int .i64 tk)).put (some 9) (.bool true)).put (some 10) (.agg #[.int .i64 1, .string un, .int .i64 us, .slice A' ul.length c'])).put (some 11) (.agg #[.int .i64 tk, .string tn, .int .i64 ts, .slice A tl.length c])) ∧ w' = ((((((((V.setCell ⟨w.heap.size, 0, none⟩ (.int .i64 1)).setCell ⟨w.heap.size, 1, none⟩ (.string un)).setCell ⟨w.heap.size, 2, none⟩ (.int .i64 us)).setCell ⟨w.heap.size, 3, none⟩ (.slice A' ul.length c')).setCell ⟨w.heap.size + 1, 0, none⟩ (.int .i64 tk)).setCell ⟨w.heap.size + 1, 1, none⟩ (.string tn)).setCell ⟨w.heap.size + 1, 2, none⟩ (.int .i64 ts)).setCell ⟨w.heap.size + 1, 3, none⟩ (.slice A tl.length c))) ?_ ?_
    · go_wp2_with fail
    rintro a' w' ⟨rfl, hw'⟩
    rw [hw']
    clear hw' w'
    refine hK _ _ ?_
    clear hK K
    have hsw : Four w (boxT (Tm.mk 1 un us ul) A' c') (boxT (Tm.mk tk tn ts tl) A c) (.cells #[.int .i64 0, .string ⟨#[]⟩, .int .i64 0, .slice none 0 0] 24 (0, 0)) (.cells #[.int .i64 0, .string ⟨#[]⟩, .int .i64 0, .slice none 0 0] 24 (0, 0)) ((((((((V.setCell ⟨w.heap.size, 0, none⟩ (.int .i64 1)).setCell ⟨w.heap.size, 1, none⟩ (.string un)).setCell ⟨w.heap.size, 2, none⟩ (.int .i64 us)).setCell ⟨w.heap.size, 3, none⟩ (.slice A' ul.length c')).setCell ⟨w.heap.size + 1, 0, none⟩ (.int .i64 tk)).setCell ⟨w.heap.size + 1, 1, none⟩ (.string tn)).setCell ⟨w.heap.size + 1, 2, none⟩ (.int .i64 ts)).setCell ⟨w.heap.size + 1, 3, none⟩ (.slice A tl.length c)) := H4.out.swap
    generalize ((((((((V.setCell ⟨w.heap.size, 0, none⟩ (.int .i64 1)).setCell ⟨w.heap.size, 1, none⟩ (.string un)).setCell ⟨w.heap.size, 2, none⟩ (.int .i64 us)).setCell ⟨w.heap.size, 3, none⟩ (.slice A' ul.length c')).setCell ⟨w.heap.size + 1, 0, none⟩ (.int .i64 tk)).setCell ⟨w.heap.size + 1, 1, none⟩ (.string tn)).setCell ⟨w.heap.size + 1, 2, none⟩ (.int .i64 ts)).setCell ⟨w.heap.size + 1, 3, none⟩ (.slice A tl.length c)) = W6 at hsw ⊢
    have HF6 := Lib.hid hsw; clear hsw
    clear a0 a1 a2 a3 af b0 b1 b2 b3 bf
    rcases eq_facts us 0 with ⟨s0, s1, s2⟩ | ⟨s0, s1, s2⟩
    · subst s0
      have hfit : fits (Tm.mk 1 un 0 ul) (Tm.mk tk tn ts tl) = true := fits_yes HVU.out HVT.out rfl (.inl rfl)
      have HQ2 : Hid (q = if occT (Tm.mk 1 un 0 ul) (Tm.mk tk tn ts tl) = true then ((Tm.mk 1 un 0 ul), (Tm.mk tk tn ts tl), 12) else ((Tm.mk 1 un 0 ul), (Tm.mk tk tn ts tl), 0)) := by have h := HQ0.out; unfold oneU at h; rw [if_neg (by rw [hfit]; decide)] at h; exact h
      clear hfit
      have OC := roccurs3_any (Tm.mk 1 un 0 ul) (Tm.mk tk tn ts tl) A' A c' c W6 hu ht (HRu.out W6 HF6.out.bel) (HRt.out W6 HF6.out.bel)
      obtain ⟨oc, hoc⟩ : ∃ v, v = occT (Tm.mk 1 un 0 ul) (Tm.mk tk tn ts tl) := ⟨_, rfl⟩
      rw [← hoc] at OC HQ2
      clear hoc
      simp only [Tm.val, Tm.kind, Tm.name, Tm.sort, Tm.kids] at OC
      have OC := Lib.hid OC
      obtain ⟨a0, a1, a2, a3, af⟩ := box_at (show W6.heap[w.heap.size]? = some (.cells #[.int .i64 1, .string un, .int .i64 0, .slice A' ul.length c'] 24 (0, 0)) from HF6.out.one)
      obtain ⟨b0, b1, b2, b3, bf⟩ := box_at (show W6.heap[w.heap.size + 1]? = some (.cells #[.int .i64 tk, .string tn, .int .i64 ts, .slice A tl.length c] 24 (0, 0)) from HF6.out.two)
      go_wp2_with fail
      refine OC.out.mono ?_; clear OC; clear a0 a1 a2 a3 af b0 b1 b2 b3 bf
      rintro e w7 ⟨rfl, hl7⟩
      have HF7 := Lib.hid (HF6.out.keep (fun k hk1 hk2 => hl7.block k (by have := HF6.out.lt; omega)) (below_then HF6.out.bel hl7 HF6.out.bel.size)); clear hl7
      obtain ⟨a0, a1, a2, a3, af⟩ := box_at (show w7.heap[w.heap.size]? = some (.cells #[.int .i64 1, .string un, .int .i64 0, .slice A' ul.length c'] 24 (0, 0)) from HF7.out.one)
      obtain ⟨b0, b1, b2, b3, bf⟩ := box_at (show w7.heap[w.heap.size + 1]? = some (.cells #[.int .i64 tk, .string tn, .int .i64 ts, .slice A tl.length c] 24 (0, 0)) from HF7.out.two)
      cases oc with
      | true =>
        go_wp2_with fail
        clear a0 a1 a2 a3 af b0 b1 b2 b3 bf
        have hf0 : Four w (boxT (Tm.mk 1 un 0 ul) A' c') (boxT (Tm.mk tk tn ts tl) A c) (.cells #[.int .i64 0, .string ⟨#[]⟩, .int .i64 0, .slice none 0 0] 24 (0, 0)) (.cells #[.int .i64 0, .string ⟨#[]⟩, .int .i64 0, .slice none 0 0] 24 (0, 0)) w7.drew := HF7.out.keep (fun _ _ _ => rfl) HF7.out.bel.drew
        refine wp_region_mix (fun Y => Y.heap[w.heap.size]? = some (boxT (Tm.mk 1 un 0 ul) A' c') ∧ Y.heap[w.heap.size + 1]? = some (boxT (Tm.mk tk tn ts tl) A c)) 4 (.held 0 (.held 1 (.op 2 (.op 3 (.op 4 .nil))))) mixed (by kernel_rfl) ?_
        generalize w7.drew = D at *
        refine mix_take (v := .agg #[.int .i64 1, .string un, .int .i64 0, .slice A' ul.length c']) rfl rfl (fun _ _ _ h => h) ⟨hf0.one, hf0.two⟩ (fun Y hY => by
          obtain ⟨z0, z1, z2, z3, zf⟩ := box_at (show Y.heap[w.heap.size]? = some (.cells #[.int .i64 1, .string un, .int .i64 0, .slice A' ul.length c'] 24 (0, 0)) from hY.1)
          (try simp only [Act.put]); go_simp) ?_
        refine mix_take (v := .agg #[.int .i64 tk, .string tn, .int .i64 ts, .slice A tl.length c]) rfl rfl (fun _ _ _ h => h) ⟨hf0.one, hf0.two⟩ (fun Y hY => by
          obtain ⟨z0, z1, z2, z3, zf⟩ := box_at (show Y.heap[w.heap.size + 1]? = some (.cells #[.int .i64 tk, .string tn, .int .i64 ts, .slice A tl.length c] 24 (0, 0)) from hY.2)
          (try simp only [Act.put]); go_simp) ?_
        simp only [Act.put, List.setIfInBounds_toArray]
        obtain ⟨f0, f1, f2, f3, ff⟩ := box_at hf0.three
        refine mix_op rfl rfl (fun K hK => ?_)
        go_wp2_with fail
        have hf1 : Four w (boxT (Tm.mk 1 un 0 ul) A' c') (boxT (Tm.mk tk tn ts tl) A c) (boxT (Tm.mk 1 un 0 ul) A' c') (.cells #[.int .i64 0, .string ⟨#[]⟩, .int .i64 0, .slice none 0 0] 24 (0, 0)) ((((D.setCell ⟨w.heap.size + 1 + 1, 0, none⟩ (.int .i64 1)).setCell ⟨w.heap.size + 1 + 1, 1, none⟩ (.string un)).setCell ⟨w.heap.size + 1 + 1, 2, none⟩ (.int .i64 0)).setCell ⟨w.heap.size + 1 + 1, 3, none⟩ (.slice A' ul.length c')) := hf0.res1 (Tm.mk 1 un 0 ul) A' c'
        generalize ((((D.setCell ⟨w.heap.size + 1 + 1, 0, none⟩ (.int .i64 1)).setCell ⟨w.heap.size + 1 + 1, 1, none⟩ (.string un)).setCell ⟨w.heap.size + 1 + 1, 2, none⟩ (.int .i64 0)).setCell ⟨w.heap.size + 1 + 1, 3, none⟩ (.slice A' ul.length c')) = M1 at hf1 ⊢
        refine ⟨fun _ => ⟨hf1.one, hf1.two⟩, ?_⟩
        clear f0 f1 f2 f3 ff
        obtain ⟨g0, g1, g2, g3, gf⟩ := box_at hf1.four
        refine mix_op rfl rfl (fun K hK => ?_)
        go_wp2_with fail
        have hf2 : Four w (boxT (Tm.mk 1 un 0 ul) A' c') (boxT (Tm.mk tk tn ts tl) A c) (boxT (Tm.mk 1 un 0 ul) A' c') (boxT (Tm.mk tk tn ts tl) A c) ((((M1.setCell ⟨w.heap.size + 1 + 1 + 1, 0, none⟩ (.int .i64 tk)).setCell ⟨w.heap.size + 1 + 1 + 1, 1, none⟩ (.string tn)).setCell ⟨w.heap.size + 1 + 1 + 1, 2, none⟩ (.int .i64 ts)).setCell ⟨w.heap.size + 1 + 1 + 1, 3, none⟩ (.slice A tl.length c)) := hf1.res2 (Tm.mk tk tn ts tl) A c
        generalize ((((M1.setCell ⟨w.heap.size + 1 + 1 + 1, 0, none⟩ (.int .i64 tk)).setCell ⟨w.heap.size + 1 + 1 + 1, 1, none⟩ (.string tn)).setCell ⟨w.heap.size + 1 + 1 + 1, 2, none⟩ (.int .i64 ts)).setCell ⟨w.heap.size + 1 + 1 + 1, 3, none⟩ (.slice A tl.length c)) = M2 at hf2 ⊢
        refine ⟨fun _ => ⟨hf2.one, hf2.two⟩, ?_⟩
        clear g0 g1 g2 g3 gf
        refine mix_op rfl rfl (fun K hK => ?_)
        go_wp2_with fail
        refine ⟨fun h => absurd h (by decide), mix_nil ?_⟩
        obtain ⟨f0, f1, f2, f3, ff⟩ := box_at (show M2.heap[w.heap.size + 1 + 1]? = some (.cells #[.int .i64 1, .string un, .int .i64 0, .slice A' ul.length c'] 24 (0, 0)) from hf2.three)
        obtain ⟨g0, g1, g2, g3, gf⟩ := box_at (show M2.heap[w.heap.size + 1 + 1 + 1]? = some (.cells #[.int .i64 tk, .string tn, .int .i64 ts, .slice A tl.length c] 24 (0, 0)) from hf2.four)
        go_wp2_with fail
        refine bodyPost_ret (v := .tuple #[.agg #[.int .i64 1, .string un, .int .i64 0, .slice A' ul.length c'], .agg #[.int .i64 tk, .string tn, .int .i64 ts, .slice A tl.length c], .int .i64 12]) ?_ rfl ?_
        · simp [results, Tryz.results64, go_sem, f0, f1, f2, f3, g0, g1, g2, g3]
        have hq := HQ2.out.trans (if_pos trivial)
        exact ⟨(Tm.mk 1 un 0 ul), A', c', (Tm.mk tk tn ts tl), A, c, by rw [hq]; rfl, .inr ⟨rfl, rfl, rfl, rfl, rfl, rfl⟩, fun h => by rw [hq] at h ⊢; first | exact ⟨rfl, rfl⟩ | exact absurd (show (12 : Int) = 0 from h) (by decide), hf2.bel⟩
      | false =>
        go_wp2_with fail
        clear a0 a1 a2 a3 af b0 b1 b2 b3 bf
        have hf0 : Four w (boxT (Tm.mk 1 un 0 ul) A' c') (boxT (Tm.mk tk tn ts tl) A c) (.cells #[.int .i64 0, .string ⟨#[]⟩, .int .i64 0, .slice none 0 0] 24 (0, 0)) (.cells #[.int .i64 0, .string ⟨#[]⟩, .int .i64 0, .slice none 0 0] 24 (0, 0)) w7.drew := HF7.out.keep (fun _ _ _ => rfl) HF7.out.bel.drew
        refine wp_region_mix (fun Y => Y.heap[w.heap.size]? = some (boxT (Tm.mk 1 un 0 ul) A' c') ∧ Y.heap[w.heap.size + 1]? = some (boxT (Tm.mk tk tn ts tl) A c)) 4 (.held 0 (.held 1 (.op 2 (.op 3 (.op 4 .nil))))) mixed (by kernel_rfl) ?_
        generalize w7.drew = D at *
        refine mix_take (v := .agg #[.int .i64 1, .string un, .int .i64 0, .slice A' ul.length c']) rfl rfl (fun _ _ _ h => h) ⟨hf0.one, hf0.two⟩ (fun Y hY => by
          obtain ⟨z0, z1, z2, z3, zf⟩ := box_at (show Y.heap[w.heap.size]? = some (.cells #[.int .i64 1, .string un, .int .i64 0, .slice A' ul.length c'] 24 (0, 0)) from hY.1)
          (try simp only [Act.put]); go_simp) ?_
        refine mix_take (v := .agg #[.int .i64 tk, .string tn, .int .i64 ts, .slice A tl.length c]) rfl rfl (fun _ _ _ h => h) ⟨hf0.one, hf0.two⟩ (fun Y hY => by
          obtain ⟨z0, z1, z2, z3, zf⟩ := box_at (show Y.heap[w.heap.size + 1]? = some (.cells #[.int .i64 tk, .string tn, .int .i64 ts, .slice A tl.length c] 24 (0, 0)) from hY.2)
          (try simp only [Act.put]); go_simp) ?_
        simp only [Act.put, List.setIfInBounds_toArray]
        obtain ⟨f0, f1, f2, f3, ff⟩ := box_at hf0.three
        refine mix_op rfl rfl (fun K hK => ?_)
        go_wp2_with fail
        have hf1 : Four w (boxT (Tm.mk 1 un 0 ul) A' c') (boxT (Tm.mk tk tn ts tl) A c) (boxT (Tm.mk 1 un 0 ul) A' c') (.cells #[.int .i64 0, .string ⟨#[]⟩, .int .i64 0, .slice none 0 0] 24 (0, 0)) ((((D.setCell ⟨w.heap.size + 1 + 1, 0, none⟩ (.int .i64 1)).setCell ⟨w.heap.size + 1 + 1, 1, none⟩ (.string un)).setCell ⟨w.heap.size + 1 + 1, 2, none⟩ (.int .i64 0)).setCell ⟨w.heap.size + 1 + 1, 3, none⟩ (.slice A' ul.length c')) := hf0.res1 (Tm.mk 1 un 0 ul) A' c'
        generalize ((((D.setCell ⟨w.heap.size + 1 + 1, 0, none⟩ (.int .i64 1)).setCell ⟨w.heap.size + 1 + 1, 1, none⟩ (.string un)).setCell ⟨w.heap.size + 1 + 1, 2, none⟩ (.int .i64 0)).setCell ⟨w.heap.size + 1 + 1, 3, none⟩ (.slice A' ul.length c')) = M1 at hf1 ⊢
        refine ⟨fun _ => ⟨hf1.one, hf1.two⟩, ?_⟩
        clear f0 f1 f2 f3 ff
        obtain ⟨g0, g1, g2, g3, gf⟩ := box_at hf1.four
        refine mix_op rfl rfl (fun K hK => ?_)
        go_wp2_with fail
        have hf2 : Four w (boxT (Tm.mk 1 un 0 ul) A' c') (boxT (Tm.mk tk tn ts tl) A c) (boxT (Tm.mk 1 un 0 ul) A' c') (boxT (Tm.mk tk tn ts tl) A c) ((((M1.setCell ⟨w.heap.size + 1 + 1 + 1, 0, none⟩ (.int .i64 tk)).setCell ⟨w.heap.size + 1 + 1 + 1, 1, none⟩ (.string tn)).setCell ⟨w.heap.size + 1 + 1 + 1, 2, none⟩ (.int .i64 ts)).setCell ⟨w.heap.size + 1 + 1 + 1, 3, none⟩ (.slice A tl.length c)) := hf1.res2 (Tm.mk tk tn ts tl) A c
        generalize ((((M1.setCell ⟨w.heap.size + 1 + 1 + 1, 0, none⟩ (.int .i64 tk)).setCell ⟨w.heap.size + 1 + 1 + 1, 1, none⟩ (.string tn)).setCell ⟨w.heap.size + 1 + 1 + 1, 2, none⟩ (.int .i64 ts)).setCell ⟨w.heap.size + 1 + 1 + 1, 3, none⟩ (.slice A tl.length c)) = M2 at hf2 ⊢
        refine ⟨fun _ => ⟨hf2.one, hf2.two⟩, ?_⟩
        clear g0 g1 g2 g3 gf
        refine mix_op rfl rfl (fun K hK => ?_)
        go_wp2_with fail
        refine ⟨fun h => absurd h (by decide), mix_nil ?_⟩
        obtain ⟨f0, f1, f2, f3, ff⟩ := box_at (show M2.heap[w.heap.size + 1 + 1]? = some (.cells #[.int .i64 1, .string un, .int .i64 0, .slice A' ul.length c'] 24 (0, 0)) from hf2.three)
        obtain ⟨g0, g1, g2, g3, gf⟩ := box_at (show M2.heap[w.heap.size + 1 + 1 + 1]? = some (.cells #[.int .i64 tk, .string tn, .int .i64 ts, .slice A tl.length c] 24 (0, 0)) from hf2.four)
        go_wp2_with fail
        refine bodyPost_ret (v := .tuple #[.agg #[.int .i64 1, .string un, .int .i64 0, .slice A' ul.length c'], .agg #[.int .i64 tk, .string tn, .int .i64 ts, .slice A tl.length c], .int .i64 0]) ?_ rfl ?_
        · simp [results, Tryz.results64, go_sem, f0, f1, f2, f3, g0, g1, g2, g3]
        have hq := HQ2.out.trans (if_neg (by decide))
        exact ⟨(Tm.mk 1 un 0 ul), A', c', (Tm.mk tk tn ts tl), A, c, by rw [hq]; rfl, .inr ⟨rfl, rfl, rfl, rfl, rfl, rfl⟩, fun h => by rw [hq] at h ⊢; first | exact ⟨rfl, rfl⟩ | exact absurd (show (0 : Int) = 0 from h) (by decide), hf2.bel⟩
    · skip
      rcases eq_facts tk 2 with ⟨k0, k1, k2⟩ | ⟨k0, k1, k2⟩
      · subst k0
        rcases eq_facts ts us with ⟨r0, r1, r2⟩ | ⟨r0, r1, r2⟩
        · subst r0
          have hfit : fits (Tm.mk 1 un ts ul) (Tm.mk 2 tn ts tl) = true := fits_yes HVU.out HVT.out rfl (.inr ⟨by show (2 : Int) ≠ 3; decide, rfl⟩)
          have HQ2 : Hid (q = if occT (Tm.mk 1 un ts ul) (Tm.mk 2 tn ts tl) = true then ((Tm.mk 1 un ts ul), (Tm.mk 2 tn ts tl), 12) else ((Tm.mk 1 un ts ul), (Tm.mk 2 tn ts tl), 0)) := by have h := HQ0.out; unfold oneU at h; rw [if_neg (by rw [hfit]; decide)] at h; exact h
          clear hfit
          have OC := roccurs3_any (Tm.mk 1 un ts ul) (Tm.mk 2 tn ts tl) A' A c' c W6 hu ht (HRu.out W6 HF6.out.bel) (HRt.out W6 HF6.out.bel)
          obtain ⟨oc, hoc⟩ : ∃ v, v = occT (Tm.mk 1 un ts ul) (Tm.mk 2 tn ts tl) := ⟨_, rfl⟩
          rw [← hoc] at OC HQ2
          clear hoc
          simp only [Tm.val, Tm.kind, Tm.name, Tm.sort, Tm.kids] at OC
          have OC := Lib.hid OC
          obtain ⟨a0, a1, a2, a3, af⟩ := box_at (show W6.heap[w.heap.size]? = some (.cells #[.int .i64 1, .string un, .int .i64 ts, .slice A' ul.length c'] 24 (0, 0)) from HF6.out.one)
          obtain ⟨b0, b1, b2, b3, bf⟩ := box_at (show W6.heap[w.heap.size + 1]? = some (.cells #[.int .i64 2, .string tn, .int .i64 ts, .slice A tl.length c] 24 (0, 0)) from HF6.out.two)
          go_wp2_with fail
          refine OC.out.mono ?_; clear OC; clear a0 a1 a2 a3 af b0 b1 b2 b3 bf
          rintro e w7 ⟨rfl, hl7⟩
          have HF7 := Lib.hid (HF6.out.keep (fun k hk1 hk2 => hl7.block k (by have := HF6.out.lt; omega)) (below_then HF6.out.bel hl7 HF6.out.bel.size)); clear hl7
          obtain ⟨a0, a1, a2, a3, af⟩ := box_at (show w7.heap[w.heap.size]? = some (.cells #[.int .i64 1, .string un, .int .i64 ts, .slice A' ul.length c'] 24 (0, 0)) from HF7.out.one)
          obtain ⟨b0, b1, b2, b3, bf⟩ := box_at (show w7.heap[w.heap.size + 1]? = some (.cells #[.int .i64 2, .string tn, .int .i64 ts, .slice A tl.length c] 24 (0, 0)) from HF7.out.two)
          cases oc with
          | true =>
            go_wp2_with fail
            clear a0 a1 a2 a3 af b0 b1 b2 b3 bf
            have hf0 : Four w (boxT (Tm.mk 1 un ts ul) A' c') (boxT (Tm.mk 2 tn ts tl) A c) (.cells #[.int .i64 0, .string ⟨#[]⟩, .int .i64 0, .slice none 0 0] 24 (0, 0)) (.cells #[.int .i64 0, .string ⟨#[]⟩, .int .i64 0, .slice none 0 0] 24 (0, 0)) w7.drew := HF7.out.keep (fun _ _ _ => rfl) HF7.out.bel.drew
            refine wp_region_mix (fun Y => Y.heap[w.heap.size]? = some (boxT (Tm.mk 1 un ts ul) A' c') ∧ Y.heap[w.heap.size + 1]? = some (boxT (Tm.mk 2 tn ts tl) A c)) 4 (.held 0 (.held 1 (.op 2 (.op 3 (.op 4 .nil))))) mixed (by kernel_rfl) ?_
            generalize w7.drew = D at *
            refine mix_take (v := .agg #[.int .i64 1, .string un, .int .i64 ts, .slice A' ul.length c']) rfl rfl (fun _ _ _ h => h) ⟨hf0.one, hf0.two⟩ (fun Y hY => by
              obtain ⟨z0, z1, z2, z3, zf⟩ := box_at (show Y.heap[w.heap.size]? = some (.cells #[.int .i64 1, .string un, .int .i64 ts, .slice A' ul.length c'] 24 (0, 0)) from hY.1)
              (try simp only [Act.put]); go_simp) ?_
            refine mix_take (v := .agg #[.int .i64 2, .string tn, .int .i64 ts, .slice A tl.length c]) rfl rfl (fun _ _ _ h => h) ⟨hf0.one, hf0.two⟩ (fun Y hY => by
              obtain ⟨z0, z1, z2, z3, zf⟩ := box_at (show Y.heap[w.heap.size + 1]? = some (.cells #[.int .i64 2, .string tn, .int .i64 ts, .slice A tl.length c] 24 (0, 0)) from hY.2)
              (try simp only [Act.put]); go_simp) ?_
            simp only [Act.put, List.setIfInBounds_toArray]
            obtain ⟨f0, f1, f2, f3, ff⟩ := box_at hf0.three
            refine mix_op rfl rfl (fun K hK => ?_)
            go_wp2_with fail
            have hf1 : Four w (boxT (Tm.mk 1 un ts ul) A' c') (boxT (Tm.mk 2 tn ts tl) A c) (boxT (Tm.mk 1 un ts ul) A' c') (.cells #[.int .i64 0, .string ⟨#[]⟩, .int .i64 0, .slice none 0 0] 24 (0, 0)) ((((D.setCell ⟨w.heap.size + 1 + 1, 0, none⟩ (.int .i64 1)).setCell ⟨w.heap.size + 1 + 1, 1, none⟩ (.string un)).setCell ⟨w.heap.size + 1 + 1, 2, none⟩ (.int .i64 ts)).setCell ⟨w.heap.size + 1 + 1, 3, none⟩ (.slice A' ul.length c')) := hf0.res1 (Tm.mk 1 un ts ul) A' c'
            generalize ((((D.setCell ⟨w.heap.size + 1 + 1, 0, none⟩ (.int .i64 1)).setCell ⟨w.heap.size + 1 + 1, 1, none⟩ (.string un)).setCell ⟨w.heap.size + 1 + 1, 2, none⟩ (.int .i64 ts)).setCell ⟨w.heap.size + 1 + 1, 3, none⟩ (.slice A' ul.length c')) = M1 at hf1 ⊢
            refine ⟨fun _ => ⟨hf1.one, hf1.two⟩, ?_⟩
            clear f0 f1 f2 f3 ff
            obtain ⟨g0, g1, g2, g3, gf⟩ := box_at hf1.four
            refine mix_op rfl rfl (fun K hK => ?_)
            go_wp2_with fail
            have hf2 : Four w (boxT (Tm.mk 1 un ts ul) A' c') (boxT (Tm.mk 2 tn ts tl) A c) (boxT (Tm.mk 1 un ts ul) A' c') (boxT (Tm.mk 2 tn ts tl) A c) ((((M1.setCell ⟨w.heap.size + 1 + 1 + 1, 0, none⟩ (.int .i64 2)).setCell ⟨w.heap.size + 1 + 1 + 1, 1, none⟩ (.string tn)).setCell ⟨w.heap.size + 1 + 1 + 1, 2, none⟩ (.int .i64 ts)).setCell ⟨w.heap.size + 1 + 1 + 1, 3, none⟩ (.slice A tl.length c)) := hf1.res2 (Tm.mk 2 tn ts tl) A c
            generalize ((((M1.setCell ⟨w.heap.size + 1 + 1 + 1, 0, none⟩ (.int .i64 2)).setCell ⟨w.heap.size + 1 + 1 + 1, 1, none⟩ (.string tn)).setCell ⟨w.heap.size + 1 + 1 + 1, 2, none⟩ (.int .i64 ts)).setCell ⟨w.heap.size + 1 + 1 + 1, 3, none⟩ (.slice A tl.length c)) = M2 at hf2 ⊢
            refine ⟨fun _ => ⟨hf2.one, hf2.two⟩, ?_⟩
            clear g0 g1 g2 g3 gf
            refine mix_op rfl rfl (fun K hK => ?_)
            go_wp2_with fail
            refine ⟨fun h => absurd h (by decide), mix_nil ?_⟩
            obtain ⟨f0, f1, f2, f3, ff⟩ := box_at (show M2.heap[w.heap.size + 1 + 1]? = some (.cells #[.int .i64 1, .string un, .int .i64 ts, .slice A' ul.length c'] 24 (0, 0)) from hf2.three)
            obtain ⟨g0, g1, g2, g3, gf⟩ := box_at (show M2.heap[w.heap.size + 1 + 1 + 1]? = some (.cells #[.int .i64 2, .string tn, .int .i64 ts, .slice A tl.length c] 24 (0, 0)) from hf2.four)
            go_wp2_with fail
            refine bodyPost_ret (v := .tuple #[.agg #[.int .i64 1, .string un, .int .i64 ts, .slice A' ul.length c'], .agg #[.int .i64 2, .string tn, .int .i64 ts, .slice A tl.length c], .int .i64 12]) ?_ rfl ?_
            · simp [results, Tryz.results64, go_sem, f0, f1, f2, f3, g0, g1, g2, g3]
            have hq := HQ2.out.trans (if_pos trivial)
            exact ⟨(Tm.mk 1 un ts ul), A', c', (Tm.mk 2 tn ts tl), A, c, by rw [hq]; rfl, .inr ⟨rfl, rfl, rfl, rfl, rfl, rfl⟩, fun h => by rw [hq] at h ⊢; first | exact ⟨rfl, rfl⟩ | exact absurd (show (12 : Int) = 0 from h) (by decide), hf2.bel⟩
          | false =>
            go_wp2_with fail
            clear a0 a1 a2 a3 af b0 b1 b2 b3 bf
            have hf0 : Four w (boxT (Tm.mk 1 un ts ul) A' c') (boxT (Tm.mk 2 tn ts tl) A c) (.cells #[.int .i64 0, .string ⟨#[]⟩, .int .i64 0, .slice none 0 0] 24 (0, 0)) (.cells #[.int .i64 0, .string ⟨#[]⟩, .int .i64 0, .slice none 0 0] 24 (0, 0)) w7.drew := HF7.out.keep (fun _ _ _ => rfl) HF7.out.bel.drew
            refine wp_region_mix (fun Y => Y.heap[w.heap.size]? = some (boxT (Tm.mk 1 un ts ul) A' c') ∧ Y.heap[w.heap.size + 1]? = some (boxT (Tm.mk 2 tn ts tl) A c)) 4 (.held 0 (.held 1 (.op 2 (.op 3 (.op 4 .nil))))) mixed (by kernel_rfl) ?_
            generalize w7.drew = D at *
            refine mix_take (v := .agg #[.int .i64 1, .string un, .int .i64 ts, .slice A' ul.length c']) rfl rfl (fun _ _ _ h => h) ⟨hf0.one, hf0.two⟩ (fun Y hY => by
              obtain ⟨z0, z1, z2, z3, zf⟩ := box_at (show Y.heap[w.heap.size]? = some (.cells #[.int .i64 1, .string un, .int .i64 ts, .slice A' ul.length c'] 24 (0, 0)) from hY.1)
              (try simp only [Act.put]); go_simp) ?_
            refine mix_take (v := .agg #[.int .i64 2, .string tn, .int .i64 ts, .slice A tl.length c]) rfl rfl (fun _ _ _ h => h) ⟨hf0.one, hf0.two⟩ (fun Y hY => by
              obtain ⟨z0, z1, z2, z3, zf⟩ := box_at (show Y.heap[w.heap.size + 1]? = some (.cells #[.int .i64 2, .string tn, .int .i64 ts, .slice A tl.length c] 24 (0, 0)) from hY.2)
              (try simp only [Act.put]); go_simp) ?_
            simp only [Act.put, List.setIfInBounds_toArray]
            obtain ⟨f0, f1, f2, f3, ff⟩ := box_at hf0.three
            refine mix_op rfl rfl (fun K hK => ?_)
            go_wp2_with fail
            have hf1 : Four w (boxT (Tm.mk 1 un ts ul) A' c') (boxT (Tm.mk 2 tn ts tl) A c) (boxT (Tm.mk 1 un ts ul) A' c') (.cells #[.int .i64 0, .string ⟨#[]⟩, .int .i64 0, .slice none 0 0] 24 (0, 0)) ((((D.setCell ⟨w.heap.size + 1 + 1, 0, none⟩ (.int .i64 1)).setCell ⟨w.heap.size + 1 + 1, 1, none⟩ (.string un)).setCell ⟨w.heap.size + 1 + 1, 2, none⟩ (.int .i64 ts)).setCell ⟨w.heap.size + 1 + 1, 3, none⟩ (.slice A' ul.length c')) := hf0.res1 (Tm.mk 1 un ts ul) A' c'
            generalize ((((D.setCell ⟨w.heap.size + 1 + 1, 0, none⟩ (.int .i64 1)).setCell ⟨w.heap.size + 1 + 1, 1, none⟩ (.string un)).setCell ⟨w.heap.size + 1 + 1, 2, none⟩ (.int .i64 ts)).setCell ⟨w.heap.size + 1 + 1, 3, none⟩ (.slice A' ul.length c')) = M1 at hf1 ⊢
            refine ⟨fun _ => ⟨hf1.one, hf1.two⟩, ?_⟩
            clear f0 f1 f2 f3 ff
            obtain ⟨g0, g1, g2, g3, gf⟩ := box_at hf1.four
            refine mix_op rfl rfl (fun K hK => ?_)
            go_wp2_with fail
            have hf2 : Four w (boxT (Tm.mk 1 un ts ul) A' c') (boxT (Tm.mk 2 tn ts tl) A c) (boxT (Tm.mk 1 un ts ul) A' c') (boxT (Tm.mk 2 tn ts tl) A c) ((((M1.setCell ⟨w.heap.size + 1 + 1 + 1, 0, none⟩ (.int .i64 2)).setCell ⟨w.heap.size + 1 + 1 + 1, 1, none⟩ (.string tn)).setCell ⟨w.heap.size + 1 + 1 + 1, 2, none⟩ (.int .i64 ts)).setCell ⟨w.heap.size + 1 + 1 + 1, 3, none⟩ (.slice A tl.length c)) := hf1.res2 (Tm.mk 2 tn ts tl) A c
            generalize ((((M1.setCell ⟨w.heap.size + 1 + 1 + 1, 0, none⟩ (.int .i64 2)).setCell ⟨w.heap.size + 1 + 1 + 1, 1, none⟩ (.string tn)).setCell ⟨w.heap.size + 1 + 1 + 1, 2, none⟩ (.int .i64 ts)).setCell ⟨w.heap.size + 1 + 1 + 1, 3, none⟩ (.slice A tl.length c)) = M2 at hf2 ⊢
            refine ⟨fun _ => ⟨hf2.one, hf2.two⟩, ?_⟩
            clear g0 g1 g2 g3 gf
            refine mix_op rfl rfl (fun K hK => ?_)
            go_wp2_with fail
            refine ⟨fun h => absurd h (by decide), mix_nil ?_⟩
            obtain ⟨f0, f1, f2, f3, ff⟩ := box_at (show M2.heap[w.heap.size + 1 + 1]? = some (.cells #[.int .i64 1, .string un, .int .i64 ts, .slice A' ul.length c'] 24 (0, 0)) from hf2.three)
            obtain ⟨g0, g1, g2, g3, gf⟩ := box_at (show M2.heap[w.heap.size + 1 + 1 + 1]? = some (.cells #[.int .i64 2, .string tn, .int .i64 ts, .slice A tl.length c] 24 (0, 0)) from hf2.four)
            go_wp2_with fail
            refine bodyPost_ret (v := .tuple #[.agg #[.int .i64 1, .string un, .int .i64 ts, .slice A' ul.length c'], .agg #[.int .i64 2, .string tn, .int .i64 ts, .slice A tl.length c], .int .i64 0]) ?_ rfl ?_
            · simp [results, Tryz.results64, go_sem, f0, f1, f2, f3, g0, g1, g2, g3]
            have hq := HQ2.out.trans (if_neg (by decide))
            exact ⟨(Tm.mk 1 un ts ul), A', c', (Tm.mk 2 tn ts tl), A, c, by rw [hq]; rfl, .inr ⟨rfl, rfl, rfl, rfl, rfl, rfl⟩, fun h => by rw [hq] at h ⊢; first | exact ⟨rfl, rfl⟩ | exact absurd (show (0 : Int) = 0 from h) (by decide), hf2.bel⟩
        · skip
          have hfit : fits (Tm.mk 1 un us ul) (Tm.mk 2 tn ts tl) = false := fits_no s0 (fun h => r0 h.2)
          have HQ2 : Hid (q = ((Tm.mk 1 un us ul), (Tm.mk 2 tn ts tl), 11)) := by have h := HQ0.out; unfold oneU at h; rw [if_pos hfit] at h; exact h
          clear hfit
          obtain ⟨a0, a1, a2, a3, af⟩ := box_at (show W6.heap[w.heap.size]? = some (.cells #[.int .i64 1, .string un, .int .i64 us, .slice A' ul.length c'] 24 (0, 0)) from HF6.out.one)
          obtain ⟨b0, b1, b2, b3, bf⟩ := box_at (show W6.heap[w.heap.size + 1]? = some (.cells #[.int .i64 2, .string tn, .int .i64 ts, .slice A tl.length c] 24 (0, 0)) from HF6.out.two)
          go_wp2_with fail
          clear a0 a1 a2 a3 af b0 b1 b2 b3 bf
          have hf0 : Four w (boxT (Tm.mk 1 un us ul) A' c') (boxT (Tm.mk 2 tn ts tl) A c) (.cells #[.int .i64 0, .string ⟨#[]⟩, .int .i64 0, .slice none 0 0] 24 (0, 0)) (.cells #[.int .i64 0, .string ⟨#[]⟩, .int .i64 0, .slice none 0 0] 24 (0, 0)) W6.drew := HF6.out.keep (fun _ _ _ => rfl) HF6.out.bel.drew
          refine wp_region_mix (fun Y => Y.heap[w.heap.size]? = some (boxT (Tm.mk 1 un us ul) A' c') ∧ Y.heap[w.heap.size + 1]? = some (boxT (Tm.mk 2 tn ts tl) A c)) 4 (.held 0 (.held 1 (.op 2 (.op 3 (.op 4 .nil))))) mixed (by kernel_rfl) ?_
          generalize W6.drew = D at *
          refine mix_take (v := .agg #[.int .i64 1, .string un, .int .i64 us, .slice A' ul.length c']) rfl rfl (fun _ _ _ h => h) ⟨hf0.one, hf0.two⟩ (fun Y hY => by
            obtain ⟨z0, z1, z2, z3, zf⟩ := box_at (show Y.heap[w.heap.size]? = some (.cells #[.int .i64 1, .string un, .int .i64 us, .slice A' ul.length c'] 24 (0, 0)) from hY.1)
            (try simp only [Act.put]); go_simp) ?_
          refine mix_take (v := .agg #[.int .i64 2, .string tn, .int .i64 ts, .slice A tl.length c]) rfl rfl (fun _ _ _ h => h) ⟨hf0.one, hf0.two⟩ (fun Y hY => by
            obtain ⟨z0, z1, z2, z3, zf⟩ := box_at (show Y.heap[w.heap.size + 1]? = some (.cells #[.int .i64 2, .string tn, .int .i64 ts, .slice A tl.length c] 24 (0, 0)) from hY.2)
            (try simp only [Act.put]); go_simp) ?_
          simp only [Act.put, List.setIfInBounds_toArray]
          obtain ⟨f0, f1, f2, f3, ff⟩ := box_at hf0.three
          refine mix_op rfl rfl (fun K hK => ?_)
          go_wp2_with fail
          have hf1 : Four w (boxT (Tm.mk 1 un us ul) A' c') (boxT (Tm.mk 2 tn ts tl) A c) (boxT (Tm.mk 1 un us ul) A' c') (.cells #[.int .i64 0, .string ⟨#[]⟩, .int .i64 0, .slice none 0 0] 24 (0, 0)) ((((D.setCell ⟨w.heap.size + 1 + 1, 0, none⟩ (.int .i64 1)).setCell ⟨w.heap.size + 1 + 1, 1, none⟩ (.string un)).setCell ⟨w.heap.size + 1 + 1, 2, none⟩ (.int .i64 us)).setCell ⟨w.heap.size + 1 + 1, 3, none⟩ (.slice A' ul.length c')) := hf0.res1 (Tm.mk 1 un us ul) A' c'
          generalize ((((D.setCell ⟨w.heap.size + 1 + 1, 0, none⟩ (.int .i64 1)).setCell ⟨w.heap.size + 1 + 1, 1, none⟩ (.string un)).setCell ⟨w.heap.size + 1 + 1, 2, none⟩ (.int .i64 us)).setCell ⟨w.heap.size + 1 + 1, 3, none⟩ (.slice A' ul.length c')) = M1 at hf1 ⊢
          refine ⟨fun _ => ⟨hf1.one, hf1.two⟩, ?_⟩
          clear f0 f1 f2 f3 ff
          obtain ⟨g0, g1, g2, g3, gf⟩ := box_at hf1.four
          refine mix_op rfl rfl (fun K hK => ?_)
          go_wp2_with fail
          have hf2 : Four w (boxT (Tm.mk 1 un us ul) A' c') (boxT (Tm.mk 2 tn ts tl) A c) (boxT (Tm.mk 1 un us ul) A' c') (boxT (Tm.mk 2 tn ts tl) A c) ((((M1.setCell ⟨w.heap.size + 1 + 1 + 1, 0, none⟩ (.int .i64 2)).setCell ⟨w.heap.size + 1 + 1 + 1, 1, none⟩ (.string tn)).setCell ⟨w.heap.size + 1 + 1 + 1, 2, none⟩ (.int .i64 ts)).setCell ⟨w.heap.size + 1 + 1 + 1, 3, none⟩ (.slice A tl.length c)) := hf1.res2 (Tm.mk 2 tn ts tl) A c
          generalize ((((M1.setCell ⟨w.heap.size + 1 + 1 + 1, 0, none⟩ (.int .i64 2)).setCell ⟨w.heap.size + 1 + 1 + 1, 1, none⟩ (.string tn)).setCell ⟨w.heap.size + 1 + 1 + 1, 2, none⟩ (.int .i64 ts)).setCell ⟨w.heap.size + 1 + 1 + 1, 3, none⟩ (.slice A tl.length c)) = M2 at hf2 ⊢
          refine ⟨fun _ => ⟨hf2.one, hf2.two⟩, ?_⟩
          clear g0 g1 g2 g3 gf
          refine mix_op rfl rfl (fun K hK => ?_)
          go_wp2_with fail
          refine ⟨fun h => absurd h (by decide), mix_nil ?_⟩
          obtain ⟨f0, f1, f2, f3, ff⟩ := box_at (show M2.heap[w.heap.size + 1 + 1]? = some (.cells #[.int .i64 1, .string un, .int .i64 us, .slice A' ul.length c'] 24 (0, 0)) from hf2.three)
          obtain ⟨g0, g1, g2, g3, gf⟩ := box_at (show M2.heap[w.heap.size + 1 + 1 + 1]? = some (.cells #[.int .i64 2, .string tn, .int .i64 ts, .slice A tl.length c] 24 (0, 0)) from hf2.four)
          go_wp2_with fail
          refine bodyPost_ret (v := .tuple #[.agg #[.int .i64 1, .string un, .int .i64 us, .slice A' ul.length c'], .agg #[.int .i64 2, .string tn, .int .i64 ts, .slice A tl.length c], .int .i64 11]) ?_ rfl ?_
          · simp [results, Tryz.results64, go_sem, f0, f1, f2, f3, g0, g1, g2, g3]
          have hq := HQ2.out
          exact ⟨(Tm.mk 1 un us ul), A', c', (Tm.mk 2 tn ts tl), A, c, by rw [hq]; rfl, .inr ⟨rfl, rfl, rfl, rfl, rfl, rfl⟩, fun h => by rw [hq] at h ⊢; first | exact ⟨rfl, rfl⟩ | exact absurd (show (11 : Int) = 0 from h) (by decide), hf2.bel⟩
      · skip
        have hfit : fits (Tm.mk 1 un us ul) (Tm.mk tk tn ts tl) = false := fits_no s0 (fun h => k0 (by rcases kinds3 HVT.out with h3 | h3 | h3 <;> first | exact absurd h3 KY.out | exact h3 | exact absurd h3 h.1))
        have HQ2 : Hid (q = ((Tm.mk 1 un us ul), (Tm.mk tk tn ts tl), 11)) := by have h := HQ0.out; unfold oneU at h; rw [if_pos hfit] at h; exact h
        clear hfit
        obtain ⟨a0, a1, a2, a3, af⟩ := box_at (show W6.heap[w.heap.size]? = some (.cells #[.int .i64 1, .string un, .int .i64 us, .slice A' ul.length c'] 24 (0, 0)) from HF6.out.one)
        obtain ⟨b0, b1, b2, b3, bf⟩ := box_at (show W6.heap[w.heap.size + 1]? = some (.cells #[.int .i64 tk, .string tn, .int .i64 ts, .slice A tl.length c] 24 (0, 0)) from HF6.out.two)
        go_wp2_with fail
        clear a0 a1 a2 a3 af b0 b1 b2 b3 bf
        have hf0 : Four w (boxT (Tm.mk 1 un us ul) A' c') (boxT (Tm.mk tk tn ts tl) A c) (.cells #[.int .i64 0, .string ⟨#[]⟩, .int .i64 0, .slice none 0 0] 24 (0, 0)) (.cells #[.int .i64 0, .string ⟨#[]⟩, .int .i64 0, .slice none 0 0] 24 (0, 0)) W6.drew := HF6.out.keep (fun _ _ _ => rfl) HF6.out.bel.drew
        refine wp_region_mix (fun Y => Y.heap[w.heap.size]? = some (boxT (Tm.mk 1 un us ul) A' c') ∧ Y.heap[w.heap.size + 1]? = some (boxT (Tm.mk tk tn ts tl) A c)) 4 (.held 0 (.held 1 (.op 2 (.op 3 (.op 4 .nil))))) mixed (by kernel_rfl) ?_
        generalize W6.drew = D at *
        refine mix_take (v := .agg #[.int .i64 1, .string un, .int .i64 us, .slice A' ul.length c']) rfl rfl (fun _ _ _ h => h) ⟨hf0.one, hf0.two⟩ (fun Y hY => by
          obtain ⟨z0, z1, z2, z3, zf⟩ := box_at (show Y.heap[w.heap.size]? = some (.cells #[.int .i64 1, .string un, .int .i64 us, .slice A' ul.length c'] 24 (0, 0)) from hY.1)
          (try simp only [Act.put]); go_simp) ?_
        refine mix_take (v := .agg #[.int .i64 tk, .string tn, .int .i64 ts, .slice A tl.length c]) rfl rfl (fun _ _ _ h => h) ⟨hf0.one, hf0.two⟩ (fun Y hY => by
          obtain ⟨z0, z1, z2, z3, zf⟩ := box_at (show Y.heap[w.heap.size + 1]? = some (.cells #[.int .i64 tk, .string tn, .int .i64 ts, .slice A tl.length c] 24 (0, 0)) from hY.2)
          (try simp only [Act.put]); go_simp) ?_
        simp only [Act.put, List.setIfInBounds_toArray]
        obtain ⟨f0, f1, f2, f3, ff⟩ := box_at hf0.three
        refine mix_op rfl rfl (fun K hK => ?_)
        go_wp2_with fail
        have hf1 : Four w (boxT (Tm.mk 1 un us ul) A' c') (boxT (Tm.mk tk tn ts tl) A c) (boxT (Tm.mk 1 un us ul) A' c') (.cells #[.int .i64 0, .string ⟨#[]⟩, .int .i64 0, .slice none 0 0] 24 (0, 0)) ((((D.setCell ⟨w.heap.size + 1 + 1, 0, none⟩ (.int .i64 1)).setCell ⟨w.heap.size + 1 + 1, 1, none⟩ (.string un)).setCell ⟨w.heap.size + 1 + 1, 2, none⟩ (.int .i64 us)).setCell ⟨w.heap.size + 1 + 1, 3, none⟩ (.slice A' ul.length c')) := hf0.res1 (Tm.mk 1 un us ul) A' c'
        generalize ((((D.setCell ⟨w.heap.size + 1 + 1, 0, none⟩ (.int .i64 1)).setCell ⟨w.heap.size + 1 + 1, 1, none⟩ (.string un)).setCell ⟨w.heap.size + 1 + 1, 2, none⟩ (.int .i64 us)).setCell ⟨w.heap.size + 1 + 1, 3, none⟩ (.slice A' ul.length c')) = M1 at hf1 ⊢
        refine ⟨fun _ => ⟨hf1.one, hf1.two⟩, ?_⟩
        clear f0 f1 f2 f3 ff
        obtain ⟨g0, g1, g2, g3, gf⟩ := box_at hf1.four
        refine mix_op rfl rfl (fun K hK => ?_)
        go_wp2_with fail
        have hf2 : Four w (boxT (Tm.mk 1 un us ul) A' c') (boxT (Tm.mk tk tn ts tl) A c) (boxT (Tm.mk 1 un us ul) A' c') (boxT (Tm.mk tk tn ts tl) A c) ((((M1.setCell ⟨w.heap.size + 1 + 1 + 1, 0, none⟩ (.int .i64 tk)).setCell ⟨w.heap.size + 1 + 1 + 1, 1, none⟩ (.string tn)).setCell ⟨w.heap.size + 1 + 1 + 1, 2, none⟩ (.int .i64 ts)).setCell ⟨w.heap.size + 1 + 1 + 1, 3, none⟩ (.slice A tl.length c)) := hf1.res2 (Tm.mk tk tn ts tl) A c
        generalize ((((M1.setCell ⟨w.heap.size + 1 + 1 + 1, 0, none⟩ (.int .i64 tk)).setCell ⟨w.heap.size + 1 + 1 + 1, 1, none⟩ (.string tn)).setCell ⟨w.heap.size + 1 + 1 + 1, 2, none⟩ (.int .i64 ts)).setCell ⟨w.heap.size + 1 + 1 + 1, 3, none⟩ (.slice A tl.length c)) = M2 at hf2 ⊢
        refine ⟨fun _ => ⟨hf2.one, hf2.two⟩, ?_⟩
        clear g0 g1 g2 g3 gf
        refine mix_op rfl rfl (fun K hK => ?_)
        go_wp2_with fail
        refine ⟨fun h => absurd h (by decide), mix_nil ?_⟩
        obtain ⟨f0, f1, f2, f3, ff⟩ := box_at (show M2.heap[w.heap.size + 1 + 1]? = some (.cells #[.int .i64 1, .string un, .int .i64 us, .slice A' ul.length c'] 24 (0, 0)) from hf2.three)
        obtain ⟨g0, g1, g2, g3, gf⟩ := box_at (show M2.heap[w.heap.size + 1 + 1 + 1]? = some (.cells #[.int .i64 tk, .string tn, .int .i64 ts, .slice A tl.length c] 24 (0, 0)) from hf2.four)
        go_wp2_with fail
        refine bodyPost_ret (v := .tuple #[.agg #[.int .i64 1, .string un, .int .i64 us, .slice A' ul.length c'], .agg #[.int .i64 tk, .string tn, .int .i64 ts, .slice A tl.length c], .int .i64 11]) ?_ rfl ?_
        · simp [results, Tryz.results64, go_sem, f0, f1, f2, f3, g0, g1, g2, g3]
        have hq := HQ2.out
        exact ⟨(Tm.mk 1 un us ul), A', c', (Tm.mk tk tn ts tl), A, c, by rw [hq]; rfl, .inr ⟨rfl, rfl, rfl, rfl, rfl, rfl⟩, fun h => by rw [hq] at h ⊢; first | exact ⟨rfl, rfl⟩ | exact absurd (show (11 : Int) = 0 from h) (by decide), hf2.bel⟩
  · have HQ2 : Hid (q = ((Tm.mk tk tn ts tl), (Tm.mk uk un us ul), 11)) := (HQ.out.trans (if_neg kt)).trans (if_neg ku)
    clear HQ
    obtain ⟨a0, a1, a2, a3, af⟩ := box_at (show V.heap[w.heap.size]? = some (.cells #[.int .i64 tk, .string tn, .int .i64 ts, .slice A tl.length c] 24 (0, 0)) from H4.out.one)
    obtain ⟨b0, b1, b2, b3, bf⟩ := box_at (show V.heap[w.heap.size + 1]? = some (.cells #[.int .i64 uk, .string un, .int .i64 us, .slice A' ul.length c'] 24 (0, 0)) from H4.out.two)
    go_wp2_with fail
    have hsw : Four w (boxT (Tm.mk uk un us ul) A' c') (boxT (Tm.mk tk tn ts tl) A c) (.cells #[.int .i64 0, .string ⟨#[]⟩, .int .i64 0, .slice none 0 0] 24 (0, 0)) (.cells #[.int .i64 0, .string ⟨#[]⟩, .int .i64 0, .slice none 0 0] 24 (0, 0)) ((((((((V.setCell ⟨w.heap.size, 0, none⟩ (.int .i64 uk)).setCell ⟨w.heap.size, 1, none⟩ (.string un)).setCell ⟨w.heap.size, 2, none⟩ (.int .i64 us)).setCell ⟨w.heap.size, 3, none⟩ (.slice A' ul.length c')).setCell ⟨w.heap.size + 1, 0, none⟩ (.int .i64 tk)).setCell ⟨w.heap.size + 1, 1, none⟩ (.string tn)).setCell ⟨w.heap.size + 1, 2, none⟩ (.int .i64 ts)).setCell ⟨w.heap.size + 1, 3, none⟩ (.slice A tl.length c)) := H4.out.swap
    generalize ((((((((V.setCell ⟨w.heap.size, 0, none⟩ (.int .i64 uk)).setCell ⟨w.heap.size, 1, none⟩ (.string un)).setCell ⟨w.heap.size, 2, none⟩ (.int .i64 us)).setCell ⟨w.heap.size, 3, none⟩ (.slice A' ul.length c')).setCell ⟨w.heap.size + 1, 0, none⟩ (.int .i64 tk)).setCell ⟨w.heap.size + 1, 1, none⟩ (.string tn)).setCell ⟨w.heap.size + 1, 2, none⟩ (.int .i64 ts)).setCell ⟨w.heap.size + 1, 3, none⟩ (.slice A tl.length c)) = W6 at hsw ⊢
    have HF6 := Lib.hid hsw; clear hsw
    clear a0 a1 a2 a3 af b0 b1 b2 b3 bf
    obtain ⟨a0, a1, a2, a3, af⟩ := box_at (show W6.heap[w.heap.size]? = some (.cells #[.int .i64 uk, .string un, .int .i64 us, .slice A' ul.length c'] 24 (0, 0)) from HF6.out.one)
    obtain ⟨b0, b1, b2, b3, bf⟩ := box_at (show W6.heap[w.heap.size + 1]? = some (.cells #[.int .i64 tk, .string tn, .int .i64 ts, .slice A tl.length c] 24 (0, 0)) from HF6.out.two)
    go_wp2_with fail
    clear a0 a1 a2 a3 af b0 b1 b2 b3 bf
    have hf0 : Four w (boxT (Tm.mk uk un us ul) A' c') (boxT (Tm.mk tk tn ts tl) A c) (.cells #[.int .i64 0, .string ⟨#[]⟩, .int .i64 0, .slice none 0 0] 24 (0, 0)) (.cells #[.int .i64 0, .string ⟨#[]⟩, .int .i64 0, .slice none 0 0] 24 (0, 0)) W6.drew := HF6.out.keep (fun _ _ _ => rfl) HF6.out.bel.drew
    refine wp_region_mix (fun Y => Y.heap[w.heap.size]? = some (boxT (Tm.mk uk un us ul) A' c') ∧ Y.heap[w.heap.size + 1]? = some (boxT (Tm.mk tk tn ts tl) A c)) 4 (.held 0 (.held 1 (.op 2 (.op 3 (.op 4 .nil))))) mixed (by kernel_rfl) ?_
    generalize W6.drew = D at *
    refine mix_take (v := .agg #[.int .i64 uk, .string un, .int .i64 us, .slice A' ul.length c']) rfl rfl (fun _ _ _ h => h) ⟨hf0.one, hf0.two⟩ (fun Y hY => by
      obtain ⟨z0, z1, z2, z3, zf⟩ := box_at (show Y.heap[w.heap.size]? = some (.cells #[.int .i64 uk, .string un, .int .i64 us, .slice A' ul.length c'] 24 (0, 0)) from hY.1)
      (try simp only [Act.put]); go_simp) ?_
    refine mix_take (v := .agg #[.int .i64 tk, .string tn, .int .i64 ts, .slice A tl.length c]) rfl rfl (fun _ _ _ h => h) ⟨hf0.one, hf0.two⟩ (fun Y hY => by
      obtain ⟨z0, z1, z2, z3, zf⟩ := box_at (show Y.heap[w.heap.size + 1]? = some (.cells #[.int .i64 tk, .string tn, .int .i64 ts, .slice A tl.length c] 24 (0, 0)) from hY.2)
      (try simp only [Act.put]); go_simp) ?_
    simp only [Act.put, List.setIfInBounds_toArray]
    obtain ⟨f0, f1, f2, f3, ff⟩ := box_at hf0.three
    refine mix_op rfl rfl (fun K hK => ?_)
    go_wp2_with fail
    have hf1 : Four w (boxT (Tm.mk uk un us ul) A' c') (boxT (Tm.mk tk tn ts tl) A c) (boxT (Tm.mk uk un us ul) A' c') (.cells #[.int .i64 0, .string ⟨#[]⟩, .int .i64 0, .slice none 0 0] 24 (0, 0)) ((((D.setCell ⟨w.heap.size + 1 + 1, 0, none⟩ (.int .i64 uk)).setCell ⟨w.heap.size + 1 + 1, 1, none⟩ (.string un)).setCell ⟨w.heap.size + 1 + 1, 2, none⟩ (.int .i64 us)).setCell ⟨w.heap.size + 1 + 1, 3, none⟩ (.slice A' ul.length c')) := hf0.res1 (Tm.mk uk un us ul) A' c'
    generalize ((((D.setCell ⟨w.heap.size + 1 + 1, 0, none⟩ (.int .i64 uk)).setCell ⟨w.heap.size + 1 + 1, 1, none⟩ (.string un)).setCell ⟨w.heap.size + 1 + 1, 2, none⟩ (.int .i64 us)).setCell ⟨w.heap.size + 1 + 1, 3, none⟩ (.slice A' ul.length c')) = M1 at hf1 ⊢
    refine ⟨fun _ => ⟨hf1.one, hf1.two⟩, ?_⟩
    clear f0 f1 f2 f3 ff
    obtain ⟨g0, g1, g2, g3, gf⟩ := box_at hf1.four
    refine mix_op rfl rfl (fun K hK => ?_)
    go_wp2_with fail
    have hf2 : Four w (boxT (Tm.mk uk un us ul) A' c') (boxT (Tm.mk tk tn ts tl) A c) (boxT (Tm.mk uk un us ul) A' c') (boxT (Tm.mk tk tn ts tl) A c) ((((M1.setCell ⟨w.heap.size + 1 + 1 + 1, 0, none⟩ (.int .i64 tk)).setCell ⟨w.heap.size + 1 + 1 + 1, 1, none⟩ (.string tn)).setCell ⟨w.heap.size + 1 + 1 + 1, 2, none⟩ (.int .i64 ts)).setCell ⟨w.heap.size + 1 + 1 + 1, 3, none⟩ (.slice A tl.length c)) := hf1.res2 (Tm.mk tk tn ts tl) A c
    generalize ((((M1.setCell ⟨w.heap.size + 1 + 1 + 1, 0, none⟩ (.int .i64 tk)).setCell ⟨w.heap.size + 1 + 1 + 1, 1, none⟩ (.string tn)).setCell ⟨w.heap.size + 1 + 1 + 1, 2, none⟩ (.int .i64 ts)).setCell ⟨w.heap.size + 1 + 1 + 1, 3, none⟩ (.slice A tl.length c)) = M2 at hf2 ⊢
    refine ⟨fun _ => ⟨hf2.one, hf2.two⟩, ?_⟩
    clear g0 g1 g2 g3 gf
    refine mix_op rfl rfl (fun K hK => ?_)
    go_wp2_with fail
    refine ⟨fun h => absurd h (by decide), mix_nil ?_⟩
    obtain ⟨f0, f1, f2, f3, ff⟩ := box_at (show M2.heap[w.heap.size + 1 + 1]? = some (.cells #[.int .i64 uk, .string un, .int .i64 us, .slice A' ul.length c'] 24 (0, 0)) from hf2.three)
    obtain ⟨g0, g1, g2, g3, gf⟩ := box_at (show M2.heap[w.heap.size + 1 + 1 + 1]? = some (.cells #[.int .i64 tk, .string tn, .int .i64 ts, .slice A tl.length c] 24 (0, 0)) from hf2.four)
    go_wp2_with fail
    refine bodyPost_ret (v := .tuple #[.agg #[.int .i64 uk, .string un, .int .i64 us, .slice A' ul.length c'], .agg #[.int .i64 tk, .string tn, .int .i64 ts, .slice A tl.length c], .int .i64 11]) ?_ rfl ?_
    · simp [results, Tryz.results64, go_sem, f0, f1, f2, f3, g0, g1, g2, g3]
    have hq := HQ2.out
    exact ⟨(Tm.mk uk un us ul), A', c', (Tm.mk tk tn ts tl), A, c, by rw [hq]; rfl, .inr ⟨rfl, rfl, rfl, rfl, rfl, rfl⟩, fun h => by rw [hq] at h ⊢; first | exact ⟨rfl, rfl⟩ | exact absurd (show (11 : Int) = 0 from h) (by decide), hf2.bel⟩
end Go.Proofs.YtmajbopjaejliaaGreatDoor
