/- Uawake (joined by shake.py). -/
import Derived.Test.YtmajbopjaejliaaGreatDoorR15
import Derived.Test.YtmajbopjaejliaaGreatDoorR16
namespace Go.Proofs.YtmajbopjaejliaaGreatDoor
open Go.RowKit Go.Sort
/-- below that world nothing has turned -/
def SinceW (D Y : World) : Prop := Below D.heap.size D Y
theorem mix4_take_g {P : Program} {ops : Array Oper} {Q : Exit → Act → World → Prop} {S S2 : World → Prop} {wk : List Nat} {i : Nat} {r : Mx3} {a : Act} {w : World} {o : Oper} {v : Value} (ho : ops[i]? = some o) (hg : Region.wanted o (yielded ops a.tmps) = true) (hw : wk.contains i = false) (hQ : ∀ c a' w', Q (.panic c) (a'.put o.dst v) w' → Q (.panic c) a' w')
    (hS : S w) (hS2 : S2 w) (hv : ∀ w, S w → S2 w → (execOp a.eval o).run P w = .ok (.value v) w) (h : wpMix4 P ops Q S S2 wk r (a.put o.dst v) w) : wpMix4 P ops Q S S2 wk (.held i r) a w :=
  ⟨⟨fun _ => hS, hS2⟩, o, v, ho, Or.inl ⟨hg, fun w h => hv w (h.1 hw) h.2⟩, hQ, h⟩

attribute [local irreducible] wpMix4
set_option linter.unusedSimpArgs false in
set_option linter.unusedVariables false in
set_option maxHeartbeats 40000000 in
set_option maxRecDepth 100000 in
theorem uawake_any (w0 w : World) (h0 : Below w0.heap.size w0 w) (HI : ItoaUpto 100 w0) :
    Calls Tryz.prog 10 #[] w fun e w' => e = .returned (.bool true) ∧ Below w.heap.size w w' := by
  have mixed : Tryz.prog.follows .mixedOrders = true := by kernel_rfl
  have HII := Lib.hid HI; clear HI
  have HW0 := Lib.hid h0; clear h0
  have HF := Lib.hid (show Facts w [] w from Below.refl _ _)
  go_enter Tryz.func10, Tryz.ntmps10
  go_wp2_with fail
  refine (var_any ⟨#[120]⟩ 0 w).mono ?_
  rintro e w1 ⟨rfl, hl2⟩
  have HF3 := Lib.hid (Facts.below hl2.below HF.out)
  clear HF
  clear hl2
  simp only [Tm.val, Tm.kind, Tm.name, Tm.sort, Tm.kids, List.length_nil]
  go_wp2_with fail
  refine (var_any ⟨#[121]⟩ 0 w1).mono ?_
  rintro e w4 ⟨rfl, hl5⟩
  have HF6 := Lib.hid (Facts.below hl5.below HF3.out)
  clear HF3
  clear hl5
  simp only [Tm.val, Tm.kind, Tm.name, Tm.sort, Tm.kids, List.length_nil]
  go_wp2_with fail
  refine (var_any ⟨#[121]⟩ 2 w4).mono ?_
  rintro e w7 ⟨rfl, hl8⟩
  have HF9 := Lib.hid (Facts.below hl8.below HF6.out)
  clear HF6
  clear hl8
  simp only [Tm.val, Tm.kind, Tm.name, Tm.sort, Tm.kids, List.length_nil]
  go_wp2_with fail
  obtain ⟨V10, hV11⟩ : ∃ V, V = (((w7.alloc (boxOf qX none 0)).alloc (boxOf qY none 0)).alloc (boxOf qN none 0)) := ⟨_, rfl⟩
  have HF12 := HF9.out.boxes3 (t1 := qX) (A1 := none) (c1 := 0) (t2 := qY) (A2 := none) (c2 := 0) (t3 := qN) (A3 := none) (c3 := 0) (nilRep _ _ _ _ _ (by decide)) (nilRep _ _ _ _ _ (by decide)) (nilRep _ _ _ _ _ (by decide))
  rw [← hV11] at HF12
  simp only [boxOf, qX, qY, qN, Tm.kind, Tm.name, Tm.sort, Tm.kids, List.length_nil] at hV11
  obtain ⟨b13, hb14⟩ : ∃ b, b = w7.heap.size := ⟨_, rfl⟩
  rw [← hV11, ← hb14]
  rw [← hb14] at HF12
  have HF12 := Lib.hid HF12
  clear hV11 hb14 HF9
  refine (atom_any ⟨#[97]⟩ 0 V10).mono ?_
  rintro e w15 ⟨rfl, hl16⟩
  have HF17 := Lib.hid (Facts.below hl16.below HF12.out)
  clear HF12
  clear hl16
  simp only [Tm.val, Tm.kind, Tm.name, Tm.sort, Tm.kids, List.length_nil]
  go_wp2_with fail
  refine (atom_any ⟨#[98]⟩ 0 w15).mono ?_
  rintro e w18 ⟨rfl, hl19⟩
  have HF20 := Lib.hid (Facts.below hl19.below HF17.out)
  clear HF17
  clear hl19
  simp only [Tm.val, Tm.kind, Tm.name, Tm.sort, Tm.kids, List.length_nil]
  go_wp2_with fail
  obtain ⟨V21, hV22⟩ : ∃ V, V = ((w18.alloc (boxOf qA none 0)).alloc (boxOf qB none 0)) := ⟨_, rfl⟩
  have HF23 := HF20.out.boxes2 (t1 := qA) (A1 := none) (c1 := 0) (t2 := qB) (A2 := none) (c2 := 0) (nilRep _ _ _ _ _ (by decide)) (nilRep _ _ _ _ _ (by decide))
  rw [← hV22] at HF23
  simp only [boxOf, qA, qB, Tm.kind, Tm.name, Tm.sort, Tm.kids, List.length_nil] at hV22
  obtain ⟨b24, hb25⟩ : ∃ b, b = w18.heap.size := ⟨_, rfl⟩
  rw [← hV22, ← hb25]
  rw [← hb25] at HF23
  have HF23 := Lib.hid HF23
  clear hV22 hb25 HF20
  refine region_cutU (fun a0 a' w' => ∃ B1 B2 A1 c1 A2 c2 A3 c3, a' = ((((((((((((((a0.put (some 27) (.agg #[.int .i64 1, .string ⟨#[120]⟩, .int .i64 0, .slice none 0 0])).put (some 28) (.agg #[.int .i64 1, .string ⟨#[121]⟩, .int .i64 0, .slice none 0 0])).put (some 31) (.agg #[.int .i64 1, .string ⟨#[121]⟩, .int .i64 0, .slice none 0 0])).put (some 32) (.agg #[.int .i64 2, .string ⟨#[97]⟩, .int .i64 0, .slice none 0 0])).put (some 29) (.slice (some ⟨B1, 0, none⟩) 2 2)).put (some 30) (.agg #[.int .i64 3, .string ⟨#[102]⟩, .int .i64 0, .slice A1 2 c1])).put (some 33) (.slice (some ⟨B2, 0, none⟩) 2 2)).put (some 34) (.agg #[.int .i64 3, .string ⟨#[102]⟩, .int .i64 0, .slice A2 2 c2])).put (some 35) (.tuple #[.slice A3 2 c3, .int .i64 0])).put (some 26) (.tuple #[.slice A3 2 c3, .int .i64 0])).put (some 36) (.slice A3 2 c3)).put (some 37) (.int .i64 0)).put (some 6) (.slice A3 2 c3)).put (some 7) (.int .i64 0)) ∧ Hid (Facts w [.binds qS1 A3 c3, .box (b24 + 1) qB none 0, .box (b24) qA none 0, .box (b13 + 1 + 1) qN none 0, .box (b13 + 1) qY none 0, .box (b13) qX none 0] w')) ?_ ?_
  · skip
    refine wp_region_mix4 (fun _ => True) (SinceW V21.drew) [] (.held 0 (.held 1 (.held 4 (.held 5 (.two 2 6 (.two 3 6 (.op 6 (.op 7 (.op 8 (.held 9 (.held 10 (.held 11 (.held 12 (.held 13 .nil)))))))) (.op 3 (.op 7 (.op 8 (.held 9 (.held 10 (.held 11 (.held 12 (.held 13 .nil))))))))) (.op 2 (.op 3 (.op 7 (.op 8 (.held 9 (.held 10 (.held 11 (.held 12 (.held 13 .nil)))))))))))))) mixed (by kernel_rfl) ?_
    have HD27 := Lib.hid (Facts.below (V' := V21.drew) (Below.refl _ _).drew HF23.out)
    have HD27b := Lib.hid HD27.out.rebase
    generalize V21.drew = D26 at *
    refine mix4_take (v := .agg #[.int .i64 1, .string ⟨#[120]⟩, .int .i64 0, .slice none 0 0]) rfl rfl rfl (fun _ _ _ h => nomatch h.1) trivial (Facts.bel HD27b.out) (fun Y _ hY => by
      obtain ⟨z0, z1, z2, z3, -⟩ := BoxT.cells ((show BoxT D26 _ _ _ _ from HD27.out.2.2.2.2.1).below (show Below _ _ _ from hY))
      simp only [qX, Tm.kind, Tm.name, Tm.sort, Tm.kids, List.length_nil] at z0 z1 z2 z3
      (try simp only [Act.put]); go_simp) ?_
    refine mix4_take (v := .agg #[.int .i64 1, .string ⟨#[121]⟩, .int .i64 0, .slice none 0 0]) rfl rfl rfl (fun _ _ _ h => nomatch h.1) trivial (Facts.bel HD27b.out) (fun Y _ hY => by
      obtain ⟨z0, z1, z2, z3, -⟩ := BoxT.cells ((show BoxT D26 _ _ _ _ from HD27.out.2.2.2.1).below (show Below _ _ _ from hY))
      simp only [qY, Tm.kind, Tm.name, Tm.sort, Tm.kids, List.length_nil] at z0 z1 z2 z3
      (try simp only [Act.put]); go_simp) ?_
    refine mix4_take (v := .agg #[.int .i64 1, .string ⟨#[121]⟩, .int .i64 0, .slice none 0 0]) rfl rfl rfl (fun _ _ _ h => nomatch h.1) trivial (Facts.bel HD27b.out) (fun Y _ hY => by
      obtain ⟨z0, z1, z2, z3, -⟩ := BoxT.cells ((show BoxT D26 _ _ _ _ from HD27.out.2.2.2.1).below (show Below _ _ _ from hY))
      simp only [qY, Tm.kind, Tm.name, Tm.sort, Tm.kids, List.length_nil] at z0 z1 z2 z3
      (try simp only [Act.put]); go_simp) ?_
    refine mix4_take (v := .agg #[.int .i64 2, .string ⟨#[97]⟩, .int .i64 0, .slice none 0 0]) rfl rfl rfl (fun _ _ _ h => nomatch h.1) trivial (Facts.bel HD27b.out) (fun Y _ hY => by
      obtain ⟨z0, z1, z2, z3, -⟩ := BoxT.cells ((show BoxT D26 _ _ _ _ from HD27.out.2.1).below (show Below _ _ _ from hY))
      simp only [qA, Tm.kind, Tm.name, Tm.sort, Tm.kids, List.length_nil] at z0 z1 z2 z3
      (try simp only [Act.put]); go_simp) ?_
    refine mix4_two ?_ ?_
    · skip
      refine mix4_op rfl rfl (fun K hK => ?_)
      go_wp2_with fail
      obtain ⟨W28, hW29⟩ : ∃ V, V = D26.alloc (.cells (itCells [(qX, none, 0), (qY, none, 0)]).toArray 24) := ⟨_, rfl⟩
      have HF30 := Lib.hid (HD27b.out.slice _ hW29 (by simp) (fun x hx => by simp at hx; rcases hx with rfl | rfl <;> exact nilRep _ _ _ _ _ (by decide)))
      simp only [itCells, Tm.cells, List.cons_append, List.nil_append, qX, qY, Tm.kind, Tm.name, Tm.sort, Tm.kids, List.length_nil] at hW29
      rw [← hW29]
      refine ⟨⟨fun _ => trivial, Facts.bel HF30.out⟩, ?_⟩
      clear hW29
      clear HD27b
      refine mix4_two ?_ ?_
      · skip
        refine mix4_op rfl rfl (fun K hK => ?_)
        have C31 := app_any ⟨#[102]⟩ [qX, qY] (some ⟨D26.heap.size, 0, none⟩) 2 W28 (by decide) (by simp) (by simp) (HF30.out.1)
        simp only [Tm.val, Tm.kind, Tm.name, Tm.sort, Tm.kids, List.length_cons, List.length_nil, Nat.zero_add, Nat.reduceAdd] at C31
        have C31 := Lib.hid C31
        go_wp2_with fail
        refine C31.out.mono ?_; clear C31
        rintro e w32 ⟨A33, c34, rfl, hr35, hb36⟩
        have HF37 := Lib.hid ((Facts.below hb36 HF30.out).add (.term qFXY A33 c34) hr35)
        refine hK _ _ ⟨⟨fun _ => trivial, Facts.bel HF37.out⟩, ?_⟩
        clear hK K
        clear HF30
        clear hr35 hb36
        refine mix4_op rfl rfl (fun K hK => ?_)
        go_wp2_with fail
        obtain ⟨W38, hW39⟩ : ∃ V, V = w32.alloc (.cells (itCells [(qY, none, 0), (qA, none, 0)]).toArray 24) := ⟨_, rfl⟩
        have HF40 := Lib.hid (HF37.out.slice _ hW39 (by simp) (fun x hx => by simp at hx; rcases hx with rfl | rfl <;> exact nilRep _ _ _ _ _ (by decide)))
        simp only [itCells, Tm.cells, List.cons_append, List.nil_append, qY, qA, Tm.kind, Tm.name, Tm.sort, Tm.kids, List.length_nil] at hW39
        rw [← hW39]
        refine ⟨⟨fun _ => trivial, Facts.bel HF40.out⟩, ?_⟩
        clear hW39
        clear HF37
        refine mix4_op rfl rfl (fun K hK => ?_)
        have C41 := app_any ⟨#[102]⟩ [qY, qA] (some ⟨w32.heap.size, 0, none⟩) 2 W38 (by decide) (by simp) (by simp) (HF40.out.1)
        simp only [Tm.val, Tm.kind, Tm.name, Tm.sort, Tm.kids, List.length_cons, List.length_nil, Nat.zero_add, Nat.reduceAdd] at C41
        have C41 := Lib.hid C41
        go_wp2_with fail
        refine C41.out.mono ?_; clear C41
        rintro e w42 ⟨A43, c44, rfl, hr45, hb46⟩
        have HF47 := Lib.hid ((Facts.below hb46 HF40.out).add (.term qFYA A43 c44) hr45)
        refine hK _ _ ⟨⟨fun _ => trivial, Facts.bel HF47.out⟩, ?_⟩
        clear hK K
        clear HF40
        clear hr45 hb46
        refine mix4_op rfl rfl (fun K hK => ?_)
        have C48 := unify_any qFXY qFYA A33 A43 c34 c44 w42 _ (by decide) (by decide) (HF47.out.2.2.1) (HF47.out.1) (fun h => absurd aw_v1 h) (fun _ => ⟨10, aw_r1⟩)
        unfold SolvedU at C48
        rw [aw_s1] at C48
        simp only [Tm.val, qFXY, qFYA, qS1, Tm.kind, Tm.name, Tm.sort, Tm.kids, List.length_cons, List.length_nil, Nat.zero_add, Nat.reduceAdd] at C48
        have C48 := Lib.hid C48
        go_wp2_with fail
        refine C48.out.mono ?_; clear C48
        rintro e w49 ⟨A50, c51, rfl, hr52, hb53⟩
        have HF54 := Lib.hid ((Facts.below hb53 HF47.out).add (.binds qS1 A50 c51) hr52)
        refine hK _ _ ⟨⟨fun _ => trivial, Facts.bel HF54.out⟩, ?_⟩
        clear hK K
        clear HF47
        clear hr52 hb53
        refine mix4_take (v := .tuple #[.slice A50 2 c51, .int .i64 0]) rfl rfl rfl (fun _ _ _ h => nomatch h.1) trivial (Facts.bel HF54.out) (fun Y _ _ => by (try simp only [Act.put]); go_simp) ?_
        refine mix4_take (v := .slice A50 2 c51) rfl rfl rfl (fun _ _ _ h => nomatch h.1) trivial (Facts.bel HF54.out) (fun Y _ _ => by (try simp only [Act.put]); go_simp) ?_
        refine mix4_take (v := .int .i64 0) rfl rfl rfl (fun _ _ _ h => nomatch h.1) trivial (Facts.bel HF54.out) (fun Y _ _ => by (try simp only [Act.put]); go_simp) ?_
        refine mix4_take (v := .slice A50 2 c51) rfl rfl rfl (fun _ _ _ h => nomatch h.1) trivial (Facts.bel HF54.out) (fun Y _ _ => by (try simp only [Act.put]); go_simp) ?_
        refine mix4_take (v := .int .i64 0) rfl rfl rfl (fun _ _ _ h => nomatch h.1) trivial (Facts.bel HF54.out) (fun Y _ _ => by (try simp only [Act.put]); go_simp) ?_
        refine mix4_nil ?_
        exact ⟨rfl, D26.heap.size, w32.heap.size, A33, c34, A43, c44, A50, c51, by kernel_rfl, Lib.hid ((show Facts D26 [.binds qS1 A50 c51, .box (b24 + 1) qB none 0, .box (b24) qA none 0, .box (b13 + 1 + 1) qN none 0, .box (b13 + 1) qY none 0, .box (b13) qX none 0] w49 from ⟨HF54.out.1, HF54.out.2.2.2.2.2.1, HF54.out.2.2.2.2.2.2.1, HF54.out.2.2.2.2.2.2.2.1, HF54.out.2.2.2.2.2.2.2.2.1, HF54.out.2.2.2.2.2.2.2.2.2.1, Facts.bel HF54.out⟩).unbase (Facts.bel HD27.out))⟩
      · skip
        refine mix4_op rfl rfl (fun K hK => ?_)
        go_wp2_with fail
        obtain ⟨W55, hW56⟩ : ∃ V, V = W28.alloc (.cells (itCells [(qY, none, 0), (qA, none, 0)]).toArray 24) := ⟨_, rfl⟩
        have HF57 := Lib.hid (HF30.out.slice _ hW56 (by simp) (fun x hx => by simp at hx; rcases hx with rfl | rfl <;> exact nilRep _ _ _ _ _ (by decide)))
        simp only [itCells, Tm.cells, List.cons_append, List.nil_append, qY, qA, Tm.kind, Tm.name, Tm.sort, Tm.kids, List.length_nil] at hW56
        rw [← hW56]
        refine ⟨⟨fun _ => trivial, Facts.bel HF57.out⟩, ?_⟩
        clear hW56
        clear HF30
        refine mix4_op rfl rfl (fun K hK => ?_)
        have C58 := app_any ⟨#[102]⟩ [qX, qY] (some ⟨D26.heap.size, 0, none⟩) 2 W55 (by decide) (by simp) (by simp) (HF57.out.2.1)
        simp only [Tm.val, Tm.kind, Tm.name, Tm.sort, Tm.kids, List.length_cons, List.length_nil, Nat.zero_add, Nat.reduceAdd] at C58
        have C58 := Lib.hid C58
        go_wp2_with fail
        refine C58.out.mono ?_; clear C58
        rintro e w59 ⟨A60, c61, rfl, hr62, hb63⟩
        have HF64 := Lib.hid ((Facts.below hb63 HF57.out).add (.term qFXY A60 c61) hr62)
        refine hK _ _ ⟨⟨fun _ => trivial, Facts.bel HF64.out⟩, ?_⟩
        clear hK K
        clear HF57
        clear hr62 hb63
        refine mix4_op rfl rfl (fun K hK => ?_)
        have C65 := app_any ⟨#[102]⟩ [qY, qA] (some ⟨W28.heap.size, 0, none⟩) 2 w59 (by decide) (by simp) (by simp) (HF64.out.2.1)
        simp only [Tm.val, Tm.kind, Tm.name, Tm.sort, Tm.kids, List.length_cons, List.length_nil, Nat.zero_add, Nat.reduceAdd] at C65
        have C65 := Lib.hid C65
        go_wp2_with fail
        refine C65.out.mono ?_; clear C65
        rintro e w66 ⟨A67, c68, rfl, hr69, hb70⟩
        have HF71 := Lib.hid ((Facts.below hb70 HF64.out).add (.term qFYA A67 c68) hr69)
        refine hK _ _ ⟨⟨fun _ => trivial, Facts.bel HF71.out⟩, ?_⟩
        clear hK K
        clear HF64
        clear hr69 hb70
        refine mix4_op rfl rfl (fun K hK => ?_)
        have C72 := unify_any qFXY qFYA A60 A67 c61 c68 w66 _ (by decide) (by decide) (HF71.out.2.1) (HF71.out.1) (fun h => absurd aw_v1 h) (fun _ => ⟨10, aw_r1⟩)
        unfold SolvedU at C72
        rw [aw_s1] at C72
        simp only [Tm.val, qFXY, qFYA, qS1, Tm.kind, Tm.name, Tm.sort, Tm.kids, List.length_cons, List.length_nil, Nat.zero_add, Nat.reduceAdd] at C72
        have C72 := Lib.hid C72
        go_wp2_with fail
        refine C72.out.mono ?_; clear C72
        rintro e w73 ⟨A74, c75, rfl, hr76, hb77⟩
        have HF78 := Lib.hid ((Facts.below hb77 HF71.out).add (.binds qS1 A74 c75) hr76)
        refine hK _ _ ⟨⟨fun _ => trivial, Facts.bel HF78.out⟩, ?_⟩
        clear hK K
        clear HF71
        clear hr76 hb77
        refine mix4_take (v := .tuple #[.slice A74 2 c75, .int .i64 0]) rfl rfl rfl (fun _ _ _ h => nomatch h.1) trivial (Facts.bel HF78.out) (fun Y _ _ => by (try simp only [Act.put]); go_simp) ?_
        refine mix4_take (v := .slice A74 2 c75) rfl rfl rfl (fun _ _ _ h => nomatch h.1) trivial (Facts.bel HF78.out) (fun Y _ _ => by (try simp only [Act.put]); go_simp) ?_
        refine mix4_take (v := .int .i64 0) rfl rfl rfl (fun _ _ _ h => nomatch h.1) trivial (Facts.bel HF78.out) (fun Y _ _ => by (try simp only [Act.put]); go_simp) ?_
        refine mix4_take (v := .slice A74 2 c75) rfl rfl rfl (fun _ _ _ h => nomatch h.1) trivial (Facts.bel HF78.out) (fun Y _ _ => by (try simp only [Act.put]); go_simp) ?_
        refine mix4_take (v := .int .i64 0) rfl rfl rfl (fun _ _ _ h => nomatch h.1) trivial (Facts.bel HF78.out) (fun Y _ _ => by (try simp only [Act.put]); go_simp) ?_
        refine mix4_nil ?_
        exact ⟨rfl, D26.heap.size, W28.heap.size, A60, c61, A67, c68, A74, c75, by kernel_rfl, Lib.hid ((show Facts D26 [.binds qS1 A74 c75, .box (b24 + 1) qB none 0, .box (b24) qA none 0, .box (b13 + 1 + 1) qN none 0, .box (b13 + 1) qY none 0, .box (b13) qX none 0] w73 from ⟨HF78.out.1, HF78.out.2.2.2.2.2.1, HF78.out.2.2.2.2.2.2.1, HF78.out.2.2.2.2.2.2.2.1, HF78.out.2.2.2.2.2.2.2.2.1, HF78.out.2.2.2.2.2.2.2.2.2.1, Facts.bel HF78.out⟩).unbase (Facts.bel HD27.out))⟩
    · skip
      refine mix4_op rfl rfl (fun K hK => ?_)
      go_wp2_with fail
      obtain ⟨W79, hW80⟩ : ∃ V, V = D26.alloc (.cells (itCells [(qY, none, 0), (qA, none, 0)]).toArray 24) := ⟨_, rfl⟩
      have HF81 := Lib.hid (HD27b.out.slice _ hW80 (by simp) (fun x hx => by simp at hx; rcases hx with rfl | rfl <;> exact nilRep _ _ _ _ _ (by decide)))
      simp only [itCells, Tm.cells, List.cons_append, List.nil_append, qY, qA, Tm.kind, Tm.name, Tm.sort, Tm.kids, List.length_nil] at hW80
      rw [← hW80]
      refine ⟨⟨fun _ => trivial, Facts.bel HF81.out⟩, ?_⟩
      clear hW80
      clear HD27b
      refine mix4_op rfl rfl (fun K hK => ?_)
      go_wp2_with fail
      obtain ⟨W82, hW83⟩ : ∃ V, V = W79.alloc (.cells (itCells [(qX, none, 0), (qY, none, 0)]).toArray 24) := ⟨_, rfl⟩
      have HF84 := Lib.hid (HF81.out.slice _ hW83 (by simp) (fun x hx => by simp at hx; rcases hx with rfl | rfl <;> exact nilRep _ _ _ _ _ (by decide)))
      simp only [itCells, Tm.cells, List.cons_append, List.nil_append, qX, qY, Tm.kind, Tm.name, Tm.sort, Tm.kids, List.length_nil] at hW83
      rw [← hW83]
      refine ⟨⟨fun _ => trivial, Facts.bel HF84.out⟩, ?_⟩
      clear hW83
      clear HF81
      refine mix4_op rfl rfl (fun K hK => ?_)
      have C85 := app_any ⟨#[102]⟩ [qX, qY] (some ⟨W79.heap.size, 0, none⟩) 2 W82 (by decide) (by simp) (by simp) (HF84.out.1)
      simp only [Tm.val, Tm.kind, Tm.name, Tm.sort, Tm.kids, List.length_cons, List.length_nil, Nat.zero_add, Nat.reduceAdd] at C85
      have C85 := Lib.hid C85
      go_wp2_with fail
      refine C85.out.mono ?_; clear C85
      rintro e w86 ⟨A87, c88, rfl, hr89, hb90⟩
      have HF91 := Lib.hid ((Facts.below hb90 HF84.out).add (.term qFXY A87 c88) hr89)
      refine hK _ _ ⟨⟨fun _ => trivial, Facts.bel HF91.out⟩, ?_⟩
      clear hK K
      clear HF84
      clear hr89 hb90
      refine mix4_op rfl rfl (fun K hK => ?_)
      have C92 := app_any ⟨#[102]⟩ [qY, qA] (some ⟨D26.heap.size, 0, none⟩) 2 w86 (by decide) (by simp) (by simp) (HF91.out.2.2.1)
      simp only [Tm.val, Tm.kind, Tm.name, Tm.sort, Tm.kids, List.length_cons, List.length_nil, Nat.zero_add, Nat.reduceAdd] at C92
      have C92 := Lib.hid C92
      go_wp2_with fail
      refine C92.out.mono ?_; clear C92
      rintro e w93 ⟨A94, c95, rfl, hr96, hb97⟩
      have HF98 := Lib.hid ((Facts.below hb97 HF91.out).add (.term qFYA A94 c95) hr96)
      refine hK _ _ ⟨⟨fun _ => trivial, Facts.bel HF98.out⟩, ?_⟩
      clear hK K
      clear HF91
      clear hr96 hb97
      refine mix4_op rfl rfl (fun K hK => ?_)
      have C99 := unify_any qFXY qFYA A87 A94 c88 c95 w93 _ (by decide) (by decide) (HF98.out.2.1) (HF98.out.1) (fun h => absurd aw_v1 h) (fun _ => ⟨10, aw_r1⟩)
      unfold SolvedU at C99
      rw [aw_s1] at C99
      simp only [Tm.val, qFXY, qFYA, qS1, Tm.kind, Tm.name, Tm.sort, Tm.kids, List.length_cons, List.length_nil, Nat.zero_add, Nat.reduceAdd] at C99
      have C99 := Lib.hid C99
      go_wp2_with fail
      refine C99.out.mono ?_; clear C99
      rintro e w100 ⟨A101, c102, rfl, hr103, hb104⟩
      have HF105 := Lib.hid ((Facts.below hb104 HF98.out).add (.binds qS1 A101 c102) hr103)
      refine hK _ _ ⟨⟨fun _ => trivial, Facts.bel HF105.out⟩, ?_⟩
      clear hK K
      clear HF98
      clear hr103 hb104
      refine mix4_take (v := .tuple #[.slice A101 2 c102, .int .i64 0]) rfl rfl rfl (fun _ _ _ h => nomatch h.1) trivial (Facts.bel HF105.out) (fun Y _ _ => by (try simp only [Act.put]); go_simp) ?_
      refine mix4_take (v := .slice A101 2 c102) rfl rfl rfl (fun _ _ _ h => nomatch h.1) trivial (Facts.bel HF105.out) (fun Y _ _ => by (try simp only [Act.put]); go_simp) ?_
      refine mix4_take (v := .int .i64 0) rfl rfl rfl (fun _ _ _ h => nomatch h.1) trivial (Facts.bel HF105.out) (fun Y _ _ => by (try simp only [Act.put]); go_simp) ?_
      refine mix4_take (v := .slice A101 2 c102) rfl rfl rfl (fun _ _ _ h => nomatch h.1) trivial (Facts.bel HF105.out) (fun Y _ _ => by (try simp only [Act.put]); go_simp) ?_
      refine mix4_take (v := .int .i64 0) rfl rfl rfl (fun _ _ _ h => nomatch h.1) trivial (Facts.bel HF105.out) (fun Y _ _ => by (try simp only [Act.put]); go_simp) ?_
      refine mix4_nil ?_
      exact ⟨rfl, W79.heap.size, D26.heap.size, A87, c88, A94, c95, A101, c102, by kernel_rfl, Lib.hid ((show Facts D26 [.binds qS1 A101 c102, .box (b24 + 1) qB none 0, .box (b24) qA none 0, .box (b13 + 1 + 1) qN none 0, .box (b13 + 1) qY none 0, .box (b13) qX none 0] w100 from ⟨HF105.out.1, HF105.out.2.2.2.2.2.1, HF105.out.2.2.2.2.2.2.1, HF105.out.2.2.2.2.2.2.2.1, HF105.out.2.2.2.2.2.2.2.2.1, HF105.out.2.2.2.2.2.2.2.2.2.1, Facts.bel HF105.out⟩).unbase (Facts.bel HD27.out))⟩
  rintro a' w3 ⟨B1, B2, A1, c1, A2, c2, A3, c3, rfl, HR3⟩
  clear HF23
  obtain ⟨k1060, k1061, k1062, k1063, -⟩ := BoxT.cells (HR3.out.2.2.2.2.2.1)
  simp only [qX, Tm.kind, Tm.name, Tm.sort, Tm.kids, List.length_nil] at k1060 k1061 k1062 k1063
  obtain ⟨k1070, k1071, k1072, k1073, -⟩ := BoxT.cells (HR3.out.2.2.2.2.1)
  simp only [qY, Tm.kind, Tm.name, Tm.sort, Tm.kids, List.length_nil] at k1070 k1071 k1072 k1073
  have C108 := unify_any qX qY none none 0 0 w3 _ (by decide) (by decide) (nilRep _ _ _ _ _ (by decide)) (nilRep _ _ _ _ _ (by decide)) (fun h => absurd aw_v2 h) (fun _ => ⟨10, aw_r2⟩)
  unfold SolvedU at C108
  rw [aw_s2] at C108
  simp only [Tm.val, qX, qY, qS2, Tm.kind, Tm.name, Tm.sort, Tm.kids, List.length_cons, List.length_nil, Nat.zero_add, Nat.reduceAdd] at C108
  have C108 := Lib.hid C108
  go_wp2_with fail
  refine C108.out.mono ?_
  rintro e w109 ⟨A4, c4, rfl, hr, hb⟩
  clear C108 k1060 k1061 k1062 k1063 k1070 k1071 k1072 k1073
  have HF110 := Lib.hid ((Facts.below hb HR3.out).add (.binds qS2 A4 c4) (hr))
  clear HR3
  clear hr hb
  obtain ⟨k1110, k1111, k1112, k1113, -⟩ := BoxT.cells (HF110.out.2.2.2.2.2.2.1)
  simp only [qX, Tm.kind, Tm.name, Tm.sort, Tm.kids, List.length_nil] at k1110 k1111 k1112 k1113
  obtain ⟨k1120, k1121, k1122, k1123, -⟩ := BoxT.cells (HF110.out.2.2.2.2.1)
  simp only [qN, Tm.kind, Tm.name, Tm.sort, Tm.kids, List.length_nil] at k1120 k1121 k1122 k1123
  have C113 := unify_any qX qN none none 0 0 w109 _ (by decide) (by decide) (nilRep _ _ _ _ _ (by decide)) (nilRep _ _ _ _ _ (by decide)) (fun h => absurd aw_v3 h) (fun _ => ⟨10, aw_r3⟩)
  unfold SolvedU at C113
  rw [aw_s3] at C113
  simp only [Tm.val, qX, qN, qS3, Tm.kind, Tm.name, Tm.sort, Tm.kids, List.length_cons, List.length_nil, Nat.zero_add, Nat.reduceAdd] at C113
  have C113 := Lib.hid C113
  go_wp2_with fail
  refine C113.out.mono ?_
  rintro e w114 ⟨A5, c5, rfl, hr, hb⟩
  clear C113 k1110 k1111 k1112 k1113 k1120 k1121 k1122 k1123
  have HF115 := Lib.hid ((Facts.below hb HF110.out).add (.binds qS3 A5 c5) (hr))
  clear HF110
  clear hr hb
  go_wp2_with fail
  refine (var_any ⟨#[120]⟩ 2 w114).mono ?_
  rintro e w116 ⟨rfl, hl117⟩
  have HF118 := Lib.hid (Facts.below hl117.below HF115.out)
  clear HF115
  clear hl117
  simp only [Tm.val, Tm.kind, Tm.name, Tm.sort, Tm.kids, List.length_nil]
  go_wp2_with fail
  refine (atom_any ⟨#[98]⟩ 3 w116).mono ?_
  rintro e w119 ⟨rfl, hl120⟩
  have HF121 := Lib.hid (Facts.below hl120.below HF118.out)
  clear HF118
  clear hl120
  simp only [Tm.val, Tm.kind, Tm.name, Tm.sort, Tm.kids, List.length_nil]
  have C122 := unify_any qXn qBk none none 0 0 w119 _ (by decide) (by decide) (nilRep _ _ _ _ _ (by decide)) (nilRep _ _ _ _ _ (by decide)) (fun h => absurd aw_v4 h) (fun _ => ⟨10, aw_r4⟩)
  unfold SolvedU at C122
  rw [aw_s4] at C122
  simp only [Tm.val, qXn, qBk, Tm.kind, Tm.name, Tm.sort, Tm.kids, List.length_nil] at C122
  have C122 := Lib.hid C122
  go_wp2_with fail
  refine C122.out.mono ?_
  rintro e w123 ⟨A6, c6, rfl, -, hb⟩
  clear C122 
  have HF124 := Lib.hid (Facts.below hb HF121.out)
  clear HF121
  clear hb
  go_wp2_with fail
  refine wp_region_mix4 (fun _ => True) (SinceW w123.drew) [] (.held 0 (.held 1 (.op 2 (.op 3 (.op 4 (.held 5 (.held 6 (.held 7 (.held 8 (.held 9 .nil)))))))))) mixed (by kernel_rfl) ?_
  have HD126 := Lib.hid (Facts.below (V' := w123.drew) (Below.refl _ _).drew HF124.out)
  have HD126b := Lib.hid HD126.out.rebase
  generalize w123.drew = D125 at *
  refine mix4_take (v := .agg #[.int .i64 1, .string ⟨#[120]⟩, .int .i64 0, .slice none 0 0]) rfl rfl rfl (fun _ _ _ h => h) trivial (Facts.bel HD126b.out) (fun Y _ hY => by
    obtain ⟨z0, z1, z2, z3, -⟩ := BoxT.cells ((show BoxT D125 _ _ _ _ from HD126.out.2.2.2.2.2.2.2.1).below (show Below _ _ _ from hY))
    simp only [qX, Tm.kind, Tm.name, Tm.sort, Tm.kids, List.length_nil] at z0 z1 z2 z3
    (try simp only [Act.put]); go_simp) ?_
  refine mix4_take (v := .agg #[.int .i64 1, .string ⟨#[120]⟩, .int .i64 0, .slice none 0 0]) rfl rfl rfl (fun _ _ _ h => h) trivial (Facts.bel HD126b.out) (fun Y _ hY => by
    obtain ⟨z0, z1, z2, z3, -⟩ := BoxT.cells ((show BoxT D125 _ _ _ _ from HD126.out.2.2.2.2.2.2.2.1).below (show Below _ _ _ from hY))
    simp only [qX, Tm.kind, Tm.name, Tm.sort, Tm.kids, List.length_nil] at z0 z1 z2 z3
    (try simp only [Act.put]); go_simp) ?_
  refine mix4_op rfl rfl (fun K hK => ?_)
  go_wp2_with fail
  obtain ⟨W127, hW128⟩ : ∃ V, V = D125.alloc (.cells (itCells [(qX, none, 0)]).toArray 24) := ⟨_, rfl⟩
  have HF129 := Lib.hid (HD126b.out.slice _ hW128 (by simp) (fun x hx => by simp at hx; subst hx; exact nilRep _ _ _ _ _ (by decide)))
  simp only [itCells, Tm.cells, List.cons_append, List.nil_append, qX, Tm.kind, Tm.name, Tm.sort, Tm.kids, List.length_nil] at hW128
  rw [← hW128]
  refine ⟨⟨fun _ => trivial, Facts.bel HF129.out⟩, ?_⟩
  clear hW128
  clear HD126b
  refine mix4_op rfl rfl (fun K hK => ?_)
  have C130 := app_any ⟨#[102]⟩ [qX] (some ⟨D125.heap.size, 0, none⟩) 1 W127 (by decide) (by simp) (by simp) (HF129.out.1)
  simp only [Tm.val, Tm.kind, Tm.name, Tm.sort, Tm.kids, List.length_cons, List.length_nil, Nat.zero_add, Nat.reduceAdd] at C130
  have C130 := Lib.hid C130
  go_wp2_with fail
  refine C130.out.mono ?_; clear C130
  rintro e w131 ⟨A132, c133, rfl, hr134, hb135⟩
  have HF136 := Lib.hid ((Facts.below hb135 HF129.out).add (.term qFX A132 c133) hr134)
  refine hK _ _ ⟨⟨fun _ => trivial, Facts.bel HF136.out⟩, ?_⟩
  clear hK K
  clear HF129
  clear hr134 hb135
  refine mix4_op rfl rfl (fun K hK => ?_)
  have C137 := unify_any qX qFX none A132 0 c133 w131 _ (by decide) (by decide) (nilRep _ _ _ _ _ (by decide)) (HF136.out.1) (fun h => absurd aw_v5 h) (fun _ => ⟨10, aw_r5⟩)
  unfold SolvedU at C137
  rw [aw_s5] at C137
  simp only [Tm.val, qX, qFX, Tm.kind, Tm.name, Tm.sort, Tm.kids, List.length_cons, List.length_nil, Nat.zero_add, Nat.reduceAdd] at C137
  have C137 := Lib.hid C137
  go_wp2_with fail
  refine C137.out.mono ?_; clear C137
  rintro e w138 ⟨A139, c140, rfl, hr141, hb142⟩
  have HF143 := Lib.hid ((Facts.below hb142 HF136.out).add (.binds [] A139 c140) hr141)
  refine hK _ _ ⟨⟨fun _ => trivial, Facts.bel HF143.out⟩, ?_⟩
  clear hK K
  clear HF136
  clear hr141 hb142
  refine mix4_take (v := .tuple #[.slice A139 0 c140, .int .i64 12]) rfl rfl rfl (fun _ _ _ h => h) trivial (Facts.bel HF143.out) (fun Y _ _ => by (try simp only [Act.put]); go_simp) ?_
  refine mix4_take (v := .slice A139 0 c140) rfl rfl rfl (fun _ _ _ h => h) trivial (Facts.bel HF143.out) (fun Y _ _ => by (try simp only [Act.put]); go_simp) ?_
  refine mix4_take (v := .int .i64 12) rfl rfl rfl (fun _ _ _ h => h) trivial (Facts.bel HF143.out) (fun Y _ _ => by (try simp only [Act.put]); go_simp) ?_
  refine mix4_take (v := .slice A139 0 c140) rfl rfl rfl (fun _ _ _ h => h) trivial (Facts.bel HF143.out) (fun Y _ _ => by (try simp only [Act.put]); go_simp) ?_
  refine mix4_take (v := .int .i64 12) rfl rfl rfl (fun _ _ _ h => h) trivial (Facts.bel HF143.out) (fun Y _ _ => by (try simp only [Act.put]); go_simp) ?_
  refine mix4_nil ?_
  have HF144 := Lib.hid ((show Facts D125 [.binds qS3 A5 c5, .binds qS2 A4 c4, .binds qS1 A3 c3, .box (b24 + 1) qB none 0, .box (b24) qA none 0, .box (b13 + 1 + 1) qN none 0, .box (b13 + 1) qY none 0, .box (b13) qX none 0] w138 from ⟨HF143.out.2.2.2.1, HF143.out.2.2.2.2.1, HF143.out.2.2.2.2.2.1, HF143.out.2.2.2.2.2.2.1, HF143.out.2.2.2.2.2.2.2.1, HF143.out.2.2.2.2.2.2.2.2.1, HF143.out.2.2.2.2.2.2.2.2.2.1, HF143.out.2.2.2.2.2.2.2.2.2.2.1, Facts.bel HF143.out⟩).unbase (Facts.bel HD126.out))
  clear HF143 HD126
  go_wp2_with fail
  refine (atom_any ⟨#[97]⟩ 2 w138).mono ?_
  rintro e w145 ⟨rfl, hl146⟩
  have HF147 := Lib.hid (Facts.below hl146.below HF144.out)
  clear HF144
  clear hl146
  simp only [Tm.val, Tm.kind, Tm.name, Tm.sort, Tm.kids, List.length_nil]
  go_wp2_with fail
  refine (atom_any ⟨#[99]⟩ 2 w145).mono ?_
  rintro e w148 ⟨rfl, hl149⟩
  have HF150 := Lib.hid (Facts.below hl149.below HF147.out)
  clear HF147
  clear hl149
  simp only [Tm.val, Tm.kind, Tm.name, Tm.sort, Tm.kids, List.length_nil]
  go_wp2_with fail
  obtain ⟨V151, hV152⟩ : ∃ V, V = ((w148.alloc (boxOf qP none 0)).alloc (boxOf qQ none 0)) := ⟨_, rfl⟩
  have HF153 := HF150.out.boxes2 (t1 := qP) (A1 := none) (c1 := 0) (t2 := qQ) (A2 := none) (c2 := 0) (nilRep _ _ _ _ _ (by decide)) (nilRep _ _ _ _ _ (by decide))
  rw [← hV152] at HF153
  simp only [boxOf, qP, qQ, Tm.kind, Tm.name, Tm.sort, Tm.kids, List.length_nil] at hV152
  obtain ⟨b154, hb155⟩ : ∃ b, b = w148.heap.size := ⟨_, rfl⟩
  rw [← hV152, ← hb155]
  rw [← hb155] at HF153
  have HF153 := Lib.hid HF153
  clear hV152 hb155 HF150
  refine region_cutU (fun a0 a' w' => ∃ B1 B2 Ax cx Ay cy Az cz Av cv bx, a' = ((((((((((((((((a0.put (some 67) (.agg #[.int .i64 2, .string ⟨#[97]⟩, .int .i64 2, .slice none 0 0])).put (some 68) (.agg #[.int .i64 2, .string ⟨#[98]⟩, .int .i64 0, .slice none 0 0])).put (some 69) (.agg #[.int .i64 2, .string ⟨#[97]⟩, .int .i64 2, .slice none 0 0])).put (some 72) (.agg #[.int .i64 2, .string ⟨#[99]⟩, .int .i64 2, .slice none 0 0])).put (some 74) (.agg #[.int .i64 2, .string ⟨#[99]⟩, .int .i64 2, .slice none 0 0])).put (some 70) (.slice (some ⟨B1, 0, none⟩) 3 3)).put (some 71) (.agg #[.int .i64 3, .string ⟨#[102]⟩, .int .i64 0, .slice Ax 3 cx])).put (some 73) (.agg #[.int .i64 3, .string ⟨#[103]⟩, .int .i64 0, .slice Ay 0 cy])).put (some 75) (.slice (some ⟨B2, 0, none⟩) 3 3)).put (some 76) (.agg #[.int .i64 3, .string ⟨#[102]⟩, .int .i64 0, .slice Az 3 cz])).put (some 77) (.tuple #[.agg #[.int .i64 3, .string ⟨#[102]⟩, .int .i64 0, .slice Av 3 cv], .int .i64 0])).put (some 66) (.tuple #[.agg #[.int .i64 3, .string ⟨#[102]⟩, .int .i64 0, .slice Av 3 cv], .int .i64 0])).put (some 78) (.agg #[.int .i64 3, .string ⟨#[102]⟩, .int .i64 0, .slice Av 3 cv])).put (some 79) (.int .i64 0)).put (some 18) (.pointer (some ⟨bx, 0, none⟩))).put (some 19) (.int .i64 0)) ∧ Hid (Facts w [.box bx qFG Av cv, .box (b154 + 1) qQ none 0, .box (b154) qP none 0, .binds qS3 A5 c5, .binds qS2 A4 c4, .binds qS1 A3 c3, .box (b24 + 1) qB none 0, .box (b24) qA none 0, .box (b13 + 1 + 1) qN none 0, .box (b13 + 1) qY none 0, .box (b13) qX none 0] w')) ?_ ?_
  · skip
    refine wp_region_mix4 (fun _ => True) (SinceW V151.drew) [] (.held 0 (.held 1 (.held 2 (.held 5 (.held 7 (.two 3 14 (.two 4 14 (.two 6 14 (.two 8 14 (.two 9 14 (.two 10 14 (.held 11 (.held 12 (.held 13 (.op 14 (.op 15 (.held 16 .nil)))))) (.op 10 (.held 11 (.held 12 (.held 13 (.op 15 (.held 16 .nil))))))) (.op 9 (.op 10 (.held 11 (.held 12 (.held 13 (.op 15 (.held 16 .nil)))))))) (.op 8 (.op 9 (.op 10 (.held 11 (.held 12 (.held 13 (.op 15 (.held 16 .nil))))))))) (.op 6 (.op 8 (.op 9 (.op 10 (.held 11 (.held 12 (.held 13 (.op 15 (.held 16 .nil)))))))))) (.op 4 (.op 6 (.op 8 (.op 9 (.op 10 (.held 11 (.held 12 (.held 13 (.op 15 (.held 16 .nil))))))))))) (.op 3 (.op 4 (.op 6 (.op 8 (.op 9 (.op 10 (.held 11 (.held 12 (.held 13 (.op 15 (.held 16 .nil))))))))))))))))) mixed (by kernel_rfl) ?_
    have HD157 := Lib.hid (Facts.below (V' := V151.drew) (Below.refl _ _).drew HF153.out)
    have HD157b := Lib.hid HD157.out.rebase
    generalize V151.drew = D156 at *
    refine mix4_take (v := .agg #[.int .i64 2, .string ⟨#[97]⟩, .int .i64 2, .slice none 0 0]) rfl rfl rfl (fun _ _ _ h => nomatch h.1) trivial (Facts.bel HD157b.out) (fun Y _ hY => by
      obtain ⟨z0, z1, z2, z3, -⟩ := BoxT.cells ((show BoxT D156 _ _ _ _ from HD157.out.2.1).below (show Below _ _ _ from hY))
      simp only [qP, Tm.kind, Tm.name, Tm.sort, Tm.kids, List.length_nil] at z0 z1 z2 z3
      (try simp only [Act.put]); go_simp) ?_
    refine mix4_take (v := .agg #[.int .i64 2, .string ⟨#[98]⟩, .int .i64 0, .slice none 0 0]) rfl rfl rfl (fun _ _ _ h => nomatch h.1) trivial (Facts.bel HD157b.out) (fun Y _ hY => by
      obtain ⟨z0, z1, z2, z3, -⟩ := BoxT.cells ((show BoxT D156 _ _ _ _ from HD157.out.2.2.2.2.2.1).below (show Below _ _ _ from hY))
      simp only [qB, Tm.kind, Tm.name, Tm.sort, Tm.kids, List.length_nil] at z0 z1 z2 z3
      (try simp only [Act.put]); go_simp) ?_
    refine mix4_take (v := .agg #[.int .i64 2, .string ⟨#[97]⟩, .int .i64 2, .slice none 0 0]) rfl rfl rfl (fun _ _ _ h => nomatch h.1) trivial (Facts.bel HD157b.out) (fun Y _ hY => by
      obtain ⟨z0, z1, z2, z3, -⟩ := BoxT.cells ((show BoxT D156 _ _ _ _ from HD157.out.2.1).below (show Below _ _ _ from hY))
      simp only [qP, Tm.kind, Tm.name, Tm.sort, Tm.kids, List.length_nil] at z0 z1 z2 z3
      (try simp only [Act.put]); go_simp) ?_
    refine mix4_take (v := .agg #[.int .i64 2, .string ⟨#[99]⟩, .int .i64 2, .slice none 0 0]) rfl rfl rfl (fun _ _ _ h => nomatch h.1) trivial (Facts.bel HD157b.out) (fun Y _ hY => by
      obtain ⟨z0, z1, z2, z3, -⟩ := BoxT.cells ((show BoxT D156 _ _ _ _ from HD157.out.1).below (show Below _ _ _ from hY))
      simp only [qQ, Tm.kind, Tm.name, Tm.sort, Tm.kids, List.length_nil] at z0 z1 z2 z3
      (try simp only [Act.put]); go_simp) ?_
    refine mix4_take (v := .agg #[.int .i64 2, .string ⟨#[99]⟩, .int .i64 2, .slice none 0 0]) rfl rfl rfl (fun _ _ _ h => nomatch h.1) trivial (Facts.bel HD157b.out) (fun Y _ hY => by
      obtain ⟨z0, z1, z2, z3, -⟩ := BoxT.cells ((show BoxT D156 _ _ _ _ from HD157.out.1).below (show Below _ _ _ from hY))
      simp only [qQ, Tm.kind, Tm.name, Tm.sort, Tm.kids, List.length_nil] at z0 z1 z2 z3
      (try simp only [Act.put]); go_simp) ?_
    refine mix4_two ?_ ?_
    · skip
      refine mix4_op rfl rfl (fun K hK => ?_)
      go_wp2_with fail
      obtain ⟨W158, hW159⟩ : ∃ V, V = D156.alloc (.cells (itCells [(qP, none, 0), (qB, none, 0), (qP, none, 0)]).toArray 24) := ⟨_, rfl⟩
      have HF160 := Lib.hid (HD157b.out.slice _ hW159 (by simp) (fun x hx => by simp at hx; rcases hx with rfl | rfl | rfl <;> exact nilRep _ _ _ _ _ (by decide)))
      simp only [itCells, Tm.cells, List.cons_append, List.nil_append, qP, qB, Tm.kind, Tm.name, Tm.sort, Tm.kids, List.length_nil] at hW159
      rw [← hW159]
      refine ⟨⟨fun _ => trivial, Facts.bel HF160.out⟩, ?_⟩
      clear hW159
      clear HD157b
      refine mix4_two ?_ ?_
      · skip
        refine mix4_op rfl rfl (fun K hK => ?_)
        have C161 := app_any ⟨#[102]⟩ [qP, qB, qP] (some ⟨D156.heap.size, 0, none⟩) 3 W158 (by decide) (by simp) (by simp) (HF160.out.1)
        simp only [Tm.val, Tm.kind, Tm.name, Tm.sort, Tm.kids, List.length_cons, List.length_nil, Nat.zero_add, Nat.reduceAdd] at C161
        have C161 := Lib.hid C161
        go_wp2_with fail
        refine C161.out.mono ?_; clear C161
        rintro e w162 ⟨A163, c164, rfl, hr165, hb166⟩
        have HF167 := Lib.hid ((Facts.below hb166 HF160.out).add (.term qFPBP A163 c164) hr165)
        refine hK _ _ ⟨⟨fun _ => trivial, Facts.bel HF167.out⟩, ?_⟩
        clear hK K
        clear HF160
        clear hr165 hb166
        refine mix4_two ?_ ?_
        · skip
          refine mix4_op rfl rfl (fun K hK => ?_)
          have C168 := app0_any ⟨#[103]⟩ w162 (by decide)
          simp only [Tm.val, Tm.kind, Tm.name, Tm.sort, Tm.kids, List.length_cons, List.length_nil, Nat.zero_add, Nat.reduceAdd] at C168
          have C168 := Lib.hid C168
          go_wp2_with fail
          refine C168.out.mono ?_; clear C168
          rintro e w169 ⟨A170, c171, rfl, hr172, hb173⟩
          have HF174 := Lib.hid ((Facts.below hb173 HF167.out).add (.term qG A170 c171) hr172)
          refine hK _ _ ⟨⟨fun _ => trivial, Facts.bel HF174.out⟩, ?_⟩
          clear hK K
          clear HF167
          clear hr172 hb173
          refine mix4_two ?_ ?_
          · skip
            refine mix4_op rfl rfl (fun K hK => ?_)
            go_wp2_with fail
            obtain ⟨W175, hW176⟩ : ∃ V, V = w169.alloc (.cells (itCells [(qQ, none, 0), (qG, A170, c171), (qQ, none, 0)]).toArray 24) := ⟨_, rfl⟩
            have HF177 := Lib.hid (HF174.out.slice _ hW176 (by simp) (fun x hx => by simp at hx; rcases hx with rfl | rfl | rfl; exact nilRep _ _ _ _ _ (by decide); exact HF174.out.1; exact nilRep _ _ _ _ _ (by decide)))
            simp only [itCells, Tm.cells, List.cons_append, List.nil_append, qQ, qG, Tm.kind, Tm.name, Tm.sort, Tm.kids, List.length_nil] at hW176
            rw [← hW176]
            refine ⟨⟨fun _ => trivial, Facts.bel HF177.out⟩, ?_⟩
            clear hW176
            clear HF174
            refine mix4_two ?_ ?_
            · skip
              refine mix4_op rfl rfl (fun K hK => ?_)
              have C178 := app_any ⟨#[102]⟩ [qQ, qG, qQ] (some ⟨w169.heap.size, 0, none⟩) 3 W175 (by decide) (by simp) (by simp) (HF177.out.1)
              simp only [Tm.val, Tm.kind, Tm.name, Tm.sort, Tm.kids, List.length_cons, List.length_nil, Nat.zero_add, Nat.reduceAdd] at C178
              have C178 := Lib.hid C178
              go_wp2_with fail
              refine C178.out.mono ?_; clear C178
              rintro e w179 ⟨A180, c181, rfl, hr182, hb183⟩
              have HF184 := Lib.hid ((Facts.below hb183 HF177.out).add (.term qFQGQ A180 c181) hr182)
              refine hK _ _ ⟨⟨fun _ => trivial, Facts.bel HF184.out⟩, ?_⟩
              clear hK K
              clear HF177
              clear hr182 hb183
              refine mix4_two ?_ ?_
              · skip
                refine mix4_op rfl rfl (fun K hK => ?_)
                have C185 := general_any qFPBP qFQGQ A163 A180 c164 c181 w0 w179 100 HII.out (HW0.out.trans ((Facts.bel (HF184.out.unbase (Facts.bel HD157.out))).mono HW0.out.size)) (by decide) (fun _ => by rw [aw_names]; decide) (by decide) (by decide) (HF184.out.2.2.2.1) (HF184.out.1)
                rw [aw_gen] at C185
                unfold Genl at C185
                simp only [Tm.val, qFPBP, qFQGQ, qFG, Tm.kind, Tm.name, Tm.sort, Tm.kids, List.length_cons, List.length_nil, Nat.zero_add, Nat.reduceAdd] at C185
                have C185 := Lib.hid C185
                go_wp2_with fail
                refine C185.out.mono ?_; clear C185
                rintro e w186 ⟨A187, c188, rfl, hr189, hb190⟩
                have HF191 := Lib.hid ((Facts.below hb190 HF184.out).add (.term qFG A187 c188) hr189)
                refine hK _ _ ⟨⟨fun _ => trivial, Facts.bel HF191.out⟩, ?_⟩
                clear hK K
                clear HF184
                clear hr189 hb190
                refine mix4_take (v := .tuple #[.agg #[.int .i64 3, .string ⟨#[102]⟩, .int .i64 0, .slice A187 3 c188], .int .i64 0]) rfl rfl rfl (fun _ _ _ h => nomatch h.1) trivial (Facts.bel HF191.out) (fun Y _ _ => by (try simp only [Act.put]); go_simp) ?_
                refine mix4_take (v := .agg #[.int .i64 3, .string ⟨#[102]⟩, .int .i64 0, .slice A187 3 c188]) rfl rfl rfl (fun _ _ _ h => nomatch h.1) trivial (Facts.bel HF191.out) (fun Y _ _ => by (try simp only [Act.put]); go_simp) ?_
                refine mix4_take (v := .int .i64 0) rfl rfl rfl (fun _ _ _ h => nomatch h.1) trivial (Facts.bel HF191.out) (fun Y _ _ => by (try simp only [Act.put]); go_simp) ?_
                refine mix4_op rfl rfl (fun K hK => ?_)
                have hs192 := Lib.hid (Facts.bel HF191.out).size
                go_wp2_with fail
                obtain ⟨W193, hW194⟩ : ∃ V, V = w186.alloc (boxOf (.mk 0 ⟨#[]⟩ 0 []) none 0) := ⟨_, rfl⟩
                have HF195 := HF191.out.boxed (t := .mk 0 ⟨#[]⟩ 0 []) (A := none) (c := 0) (nilRep _ _ _ _ _ (by decide))
                rw [← hW194] at HF195
                have HF195 := Lib.hid HF195
                simp only [boxOf, Tm.kind, Tm.name, Tm.sort, Tm.kids, List.length_nil] at hW194
                rw [← hW194]
                refine ⟨⟨fun _ => trivial, Facts.bel HF195.out⟩, ?_⟩
                clear hW194
                obtain ⟨bx196, hbx197⟩ : ∃ b, b = w186.heap.size := ⟨_, rfl⟩
                rw [← hbx197] at HF195 ⊢
                have hs192 : D156.heap.size ≤ bx196 := by rw [hbx197]; exact hs192.out
                have hs192 := Lib.hid hs192
                clear hbx197
                clear HF191
                try simp only [Act.put]
                refine mix4_op rfl rfl (fun K hK => ?_)
                have HF198 := Facts.stored (w := D156) (t := qFG) (A := A187) (c := c188) (HF195.out.1).1 hs192.out (fs := [.box (b154 + 1) qQ none 0, .box (b154) qP none 0, .binds qS3 A5 c5, .binds qS2 A4 c4, .binds qS1 A3 c3, .box (b24 + 1) qB none 0, .box (b24) qA none 0, .box (b13 + 1 + 1) qN none 0, .box (b13 + 1) qY none 0, .box (b13) qX none 0]) (show ChkAll _ _ from ⟨⟨by have h1 := BoxT.lt (HD157.out.1); have h2 := hs192.out; omega, by decide⟩, ⟨by have h1 := BoxT.lt (HD157.out.2.1); have h2 := hs192.out; omega, by decide⟩, (by decide : ∀ b ∈ qS3, b.1.check = 0 ∧ b.2.check = 0), (by decide : ∀ b ∈ qS2, b.1.check = 0 ∧ b.2.check = 0), (by decide : ∀ b ∈ qS1, b.1.check = 0 ∧ b.2.check = 0), ⟨by have h1 := BoxT.lt (HD157.out.2.2.2.2.2.1); have h2 := hs192.out; omega, by decide⟩, ⟨by have h1 := BoxT.lt (HD157.out.2.2.2.2.2.2.1); have h2 := hs192.out; omega, by decide⟩, ⟨by have h1 := BoxT.lt (HD157.out.2.2.2.2.2.2.2.1); have h2 := hs192.out; omega, by decide⟩, ⟨by have h1 := BoxT.lt (HD157.out.2.2.2.2.2.2.2.2.1); have h2 := hs192.out; omega, by decide⟩, ⟨by have h1 := BoxT.lt (HD157.out.2.2.2.2.2.2.2.2.2.1); have h2 := hs192.out; omega, by decide⟩, trivial⟩) ⟨HF195.out.2.2.2.2.2.2.2.1, HF195.out.2.2.2.2.2.2.2.2.1, HF195.out.2.2.2.2.2.2.2.2.2.1, HF195.out.2.2.2.2.2.2.2.2.2.2.1, HF195.out.2.2.2.2.2.2.2.2.2.2.2.1, HF195.out.2.2.2.2.2.2.2.2.2.2.2.2.1, HF195.out.2.2.2.2.2.2.2.2.2.2.2.2.2.1, HF195.out.2.2.2.2.2.2.2.2.2.2.2.2.2.2.1, HF195.out.2.2.2.2.2.2.2.2.2.2.2.2.2.2.2.1, HF195.out.2.2.2.2.2.2.2.2.2.2.2.2.2.2.2.2.1, Facts.bel HF195.out⟩ (by decide) (HF195.out.2.1)
                simp only [qFG, Tm.kind, Tm.name, Tm.sort, Tm.kids, List.length_cons, List.length_nil, Nat.zero_add, Nat.reduceAdd] at HF198
                have HF198 := Lib.hid HF198
                obtain ⟨z199, z200, z201, z202, z203⟩ := box_at (show W193.heap[bx196]? = some (.cells #[.int .i64 0, .string ⟨#[]⟩, .int .i64 0, .slice none 0 0] 24 (0, 0)) from (HF195.out.1).1)
                go_wp2_with fail
                refine ⟨⟨fun _ => trivial, Facts.bel HF198.out⟩, ?_⟩
                clear z199 z200 z201 z202 z203
                obtain ⟨W204, hW9⟩ : ∃ V, V = (((W193.setCell ⟨bx196, 0, none⟩ (.int .i64 3)).setCell ⟨bx196, 1, none⟩ (.string ⟨#[102]⟩)).setCell ⟨bx196, 2, none⟩ (.int .i64 0)).setCell ⟨bx196, 3, none⟩ (.slice A187 3 c188) := ⟨_, rfl⟩
                rw [← hW9] at HF198 ⊢
                clear hW9
                clear HF195
                refine mix4_take (v := .int .i64 0) rfl rfl rfl (fun _ _ _ h => nomatch h.1) trivial (Facts.bel HF198.out) (fun Y _ _ => by (try simp only [Act.put]); go_simp) ?_
                refine mix4_nil ?_
                exact ⟨rfl, D156.heap.size, w169.heap.size, A163, c164, A170, c171, A180, c181, A187, c188, bx196, by kernel_rfl, Lib.hid ((show Facts D156 [.box bx196 qFG A187 c188, .box (b154 + 1) qQ none 0, .box (b154) qP none 0, .binds qS3 A5 c5, .binds qS2 A4 c4, .binds qS1 A3 c3, .box (b24 + 1) qB none 0, .box (b24) qA none 0, .box (b13 + 1 + 1) qN none 0, .box (b13 + 1) qY none 0, .box (b13) qX none 0] W204 from ⟨HF198.out.1, HF198.out.2.1, HF198.out.2.2.1, HF198.out.2.2.2.1, HF198.out.2.2.2.2.1, HF198.out.2.2.2.2.2.1, HF198.out.2.2.2.2.2.2.1, HF198.out.2.2.2.2.2.2.2.1, HF198.out.2.2.2.2.2.2.2.2.1, HF198.out.2.2.2.2.2.2.2.2.2.1, HF198.out.2.2.2.2.2.2.2.2.2.2.1, Facts.bel HF198.out⟩).unbase (Facts.bel HD157.out))⟩
              · skip
                refine mix4_op rfl rfl (fun K hK => ?_)
                have hs205 := Lib.hid (Facts.bel HF184.out).size
                go_wp2_with fail
                obtain ⟨W206, hW207⟩ : ∃ V, V = w179.alloc (boxOf (.mk 0 ⟨#[]⟩ 0 []) none 0) := ⟨_, rfl⟩
                have HF208 := HF184.out.boxed (t := .mk 0 ⟨#[]⟩ 0 []) (A := none) (c := 0) (nilRep _ _ _ _ _ (by decide))
                rw [← hW207] at HF208
                have HF208 := Lib.hid HF208
                simp only [boxOf, Tm.kind, Tm.name, Tm.sort, Tm.kids, List.length_nil] at hW207
                rw [← hW207]
                refine ⟨⟨fun _ => trivial, Facts.bel HF208.out⟩, ?_⟩
                clear hW207
                obtain ⟨bx209, hbx210⟩ : ∃ b, b = w179.heap.size := ⟨_, rfl⟩
                rw [← hbx210] at HF208 ⊢
                have hs205 : D156.heap.size ≤ bx209 := by rw [hbx210]; exact hs205.out
                have hs205 := Lib.hid hs205
                clear hbx210
                clear HF184
                refine mix4_op rfl rfl (fun K hK => ?_)
                have C211 := general_any qFPBP qFQGQ A163 A180 c164 c181 w0 W206 100 HII.out (HW0.out.trans ((Facts.bel (HF208.out.unbase (Facts.bel HD157.out))).mono HW0.out.size)) (by decide) (fun _ => by rw [aw_names]; decide) (by decide) (by decide) (HF208.out.2.2.2.2.1) (HF208.out.2.1)
                rw [aw_gen] at C211
                unfold Genl at C211
                simp only [Tm.val, qFPBP, qFQGQ, qFG, Tm.kind, Tm.name, Tm.sort, Tm.kids, List.length_cons, List.length_nil, Nat.zero_add, Nat.reduceAdd] at C211
                have C211 := Lib.hid C211
                go_wp2_with fail
                refine C211.out.mono ?_; clear C211
                rintro e w212 ⟨A213, c214, rfl, hr215, hb216⟩
                have HF217 := Lib.hid ((Facts.below hb216 HF208.out).add (.term qFG A213 c214) hr215)
                refine hK _ _ ⟨⟨fun _ => trivial, Facts.bel HF217.out⟩, ?_⟩
                clear hK K
                clear HF208
                clear hr215 hb216
                refine mix4_take (v := .tuple #[.agg #[.int .i64 3, .string ⟨#[102]⟩, .int .i64 0, .slice A213 3 c214], .int .i64 0]) rfl rfl rfl (fun _ _ _ h => nomatch h.1) trivial (Facts.bel HF217.out) (fun Y _ _ => by (try simp only [Act.put]); go_simp) ?_
                refine mix4_take (v := .agg #[.int .i64 3, .string ⟨#[102]⟩, .int .i64 0, .slice A213 3 c214]) rfl rfl rfl (fun _ _ _ h => nomatch h.1) trivial (Facts.bel HF217.out) (fun Y _ _ => by (try simp only [Act.put]); go_simp) ?_
                refine mix4_take (v := .int .i64 0) rfl rfl rfl (fun _ _ _ h => nomatch h.1) trivial (Facts.bel HF217.out) (fun Y _ _ => by (try simp only [Act.put]); go_simp) ?_
                try simp only [Act.put]
                refine mix4_op rfl rfl (fun K hK => ?_)
                have HF218 := Facts.stored (w := D156) (t := qFG) (A := A213) (c := c214) (HF217.out.2.1).1 hs205.out (fs := [.box (b154 + 1) qQ none 0, .box (b154) qP none 0, .binds qS3 A5 c5, .binds qS2 A4 c4, .binds qS1 A3 c3, .box (b24 + 1) qB none 0, .box (b24) qA none 0, .box (b13 + 1 + 1) qN none 0, .box (b13 + 1) qY none 0, .box (b13) qX none 0]) (show ChkAll _ _ from ⟨⟨by have h1 := BoxT.lt (HD157.out.1); have h2 := hs205.out; omega, by decide⟩, ⟨by have h1 := BoxT.lt (HD157.out.2.1); have h2 := hs205.out; omega, by decide⟩, (by decide : ∀ b ∈ qS3, b.1.check = 0 ∧ b.2.check = 0), (by decide : ∀ b ∈ qS2, b.1.check = 0 ∧ b.2.check = 0), (by decide : ∀ b ∈ qS1, b.1.check = 0 ∧ b.2.check = 0), ⟨by have h1 := BoxT.lt (HD157.out.2.2.2.2.2.1); have h2 := hs205.out; omega, by decide⟩, ⟨by have h1 := BoxT.lt (HD157.out.2.2.2.2.2.2.1); have h2 := hs205.out; omega, by decide⟩, ⟨by have h1 := BoxT.lt (HD157.out.2.2.2.2.2.2.2.1); have h2 := hs205.out; omega, by decide⟩, ⟨by have h1 := BoxT.lt (HD157.out.2.2.2.2.2.2.2.2.1); have h2 := hs205.out; omega, by decide⟩, ⟨by have h1 := BoxT.lt (HD157.out.2.2.2.2.2.2.2.2.2.1); have h2 := hs205.out; omega, by decide⟩, trivial⟩) ⟨HF217.out.2.2.2.2.2.2.2.1, HF217.out.2.2.2.2.2.2.2.2.1, HF217.out.2.2.2.2.2.2.2.2.2.1, HF217.out.2.2.2.2.2.2.2.2.2.2.1, HF217.out.2.2.2.2.2.2.2.2.2.2.2.1, HF217.out.2.2.2.2.2.2.2.2.2.2.2.2.1, HF217.out.2.2.2.2.2.2.2.2.2.2.2.2.2.1, HF217.out.2.2.2.2.2.2.2.2.2.2.2.2.2.2.1, HF217.out.2.2.2.2.2.2.2.2.2.2.2.2.2.2.2.1, HF217.out.2.2.2.2.2.2.2.2.2.2.2.2.2.2.2.2.1, Facts.bel HF217.out⟩ (by decide) (HF217.out.1)
                simp only [qFG, Tm.kind, Tm.name, Tm.sort, Tm.kids, List.length_cons, List.length_nil, Nat.zero_add, Nat.reduceAdd] at HF218
                have HF218 := Lib.hid HF218
                obtain ⟨z219, z220, z221, z222, z223⟩ := box_at (show w212.heap[bx209]? = some (.cells #[.int .i64 0, .string ⟨#[]⟩, .int .i64 0, .slice none 0 0] 24 (0, 0)) from (HF217.out.2.1).1)
                go_wp2_with fail
                refine ⟨⟨fun _ => trivial, Facts.bel HF218.out⟩, ?_⟩
                clear z219 z220 z221 z222 z223
                obtain ⟨W224, hW9⟩ : ∃ V, V = (((w212.setCell ⟨bx209, 0, none⟩ (.int .i64 3)).setCell ⟨bx209, 1, none⟩ (.string ⟨#[102]⟩)).setCell ⟨bx209, 2, none⟩ (.int .i64 0)).setCell ⟨bx209, 3, none⟩ (.slice A213 3 c214) := ⟨_, rfl⟩
                rw [← hW9] at HF218 ⊢
                clear hW9
                clear HF217
                refine mix4_take (v := .int .i64 0) rfl rfl rfl (fun _ _ _ h => nomatch h.1) trivial (Facts.bel HF218.out) (fun Y _ _ => by (try simp only [Act.put]); go_simp) ?_
                refine mix4_nil ?_
                exact ⟨rfl, D156.heap.size, w169.heap.size, A163, c164, A170, c171, A180, c181, A213, c214, bx209, by kernel_rfl, Lib.hid ((show Facts D156 [.box bx209 qFG A213 c214, .box (b154 + 1) qQ none 0, .box (b154) qP none 0, .binds qS3 A5 c5, .binds qS2 A4 c4, .binds qS1 A3 c3, .box (b24 + 1) qB none 0, .box (b24) qA none 0, .box (b13 + 1 + 1) qN none 0, .box (b13 + 1) qY none 0, .box (b13) qX none 0] W224 from ⟨HF218.out.1, HF218.out.2.1, HF218.out.2.2.1, HF218.out.2.2.2.1, HF218.out.2.2.2.2.1, HF218.out.2.2.2.2.2.1, HF218.out.2.2.2.2.2.2.1, HF218.out.2.2.2.2.2.2.2.1, HF218.out.2.2.2.2.2.2.2.2.1, HF218.out.2.2.2.2.2.2.2.2.2.1, HF218.out.2.2.2.2.2.2.2.2.2.2.1, Facts.bel HF218.out⟩).unbase (Facts.bel HD157.out))⟩
            · skip
              refine mix4_op rfl rfl (fun K hK => ?_)
              have hs225 := Lib.hid (Facts.bel HF177.out).size
              go_wp2_with fail
              obtain ⟨W226, hW227⟩ : ∃ V, V = W175.alloc (boxOf (.mk 0 ⟨#[]⟩ 0 []) none 0) := ⟨_, rfl⟩
              have HF228 := HF177.out.boxed (t := .mk 0 ⟨#[]⟩ 0 []) (A := none) (c := 0) (nilRep _ _ _ _ _ (by decide))
              rw [← hW227] at HF228
              have HF228 := Lib.hid HF228
              simp only [boxOf, Tm.kind, Tm.name, Tm.sort, Tm.kids, List.length_nil] at hW227
              rw [← hW227]
              refine ⟨⟨fun _ => trivial, Facts.bel HF228.out⟩, ?_⟩
              clear hW227
              obtain ⟨bx229, hbx230⟩ : ∃ b, b = W175.heap.size := ⟨_, rfl⟩
              rw [← hbx230] at HF228 ⊢
              have hs225 : D156.heap.size ≤ bx229 := by rw [hbx230]; exact hs225.out
              have hs225 := Lib.hid hs225
              clear hbx230
              clear HF177
              refine mix4_op rfl rfl (fun K hK => ?_)
              have C231 := app_any ⟨#[102]⟩ [qQ, qG, qQ] (some ⟨w169.heap.size, 0, none⟩) 3 W226 (by decide) (by simp) (by simp) (HF228.out.2.1)
              simp only [Tm.val, Tm.kind, Tm.name, Tm.sort, Tm.kids, List.length_cons, List.length_nil, Nat.zero_add, Nat.reduceAdd] at C231
              have C231 := Lib.hid C231
              go_wp2_with fail
              refine C231.out.mono ?_; clear C231
              rintro e w232 ⟨A233, c234, rfl, hr235, hb236⟩
              have HF237 := Lib.hid ((Facts.below hb236 HF228.out).add (.term qFQGQ A233 c234) hr235)
              refine hK _ _ ⟨⟨fun _ => trivial, Facts.bel HF237.out⟩, ?_⟩
              clear hK K
              clear HF228
              clear hr235 hb236
              refine mix4_op rfl rfl (fun K hK => ?_)
              have C238 := general_any qFPBP qFQGQ A163 A233 c164 c234 w0 w232 100 HII.out (HW0.out.trans ((Facts.bel (HF237.out.unbase (Facts.bel HD157.out))).mono HW0.out.size)) (by decide) (fun _ => by rw [aw_names]; decide) (by decide) (by decide) (HF237.out.2.2.2.2.1) (HF237.out.1)
              rw [aw_gen] at C238
              unfold Genl at C238
              simp only [Tm.val, qFPBP, qFQGQ, qFG, Tm.kind, Tm.name, Tm.sort, Tm.kids, List.length_cons, List.length_nil, Nat.zero_add, Nat.reduceAdd] at C238
              have C238 := Lib.hid C238
              go_wp2_with fail
              refine C238.out.mono ?_; clear C238
              rintro e w239 ⟨A240, c241, rfl, hr242, hb243⟩
              have HF244 := Lib.hid ((Facts.below hb243 HF237.out).add (.term qFG A240 c241) hr242)
              refine hK _ _ ⟨⟨fun _ => trivial, Facts.bel HF244.out⟩, ?_⟩
              clear hK K
              clear HF237
              clear hr242 hb243
              refine mix4_take (v := .tuple #[.agg #[.int .i64 3, .string ⟨#[102]⟩, .int .i64 0, .slice A240 3 c241], .int .i64 0]) rfl rfl rfl (fun _ _ _ h => nomatch h.1) trivial (Facts.bel HF244.out) (fun Y _ _ => by (try simp only [Act.put]); go_simp) ?_
              refine mix4_take (v := .agg #[.int .i64 3, .string ⟨#[102]⟩, .int .i64 0, .slice A240 3 c241]) rfl rfl rfl (fun _ _ _ h => nomatch h.1) trivial (Facts.bel HF244.out) (fun Y _ _ => by (try simp only [Act.put]); go_simp) ?_
              refine mix4_take (v := .int .i64 0) rfl rfl rfl (fun _ _ _ h => nomatch h.1) trivial (Facts.bel HF244.out) (fun Y _ _ => by (try simp only [Act.put]); go_simp) ?_
              try simp only [Act.put]
              refine mix4_op rfl rfl (fun K hK => ?_)
              have HF245 := Facts.stored (w := D156) (t := qFG) (A := A240) (c := c241) (HF244.out.2.2.1).1 hs225.out (fs := [.box (b154 + 1) qQ none 0, .box (b154) qP none 0, .binds qS3 A5 c5, .binds qS2 A4 c4, .binds qS1 A3 c3, .box (b24 + 1) qB none 0, .box (b24) qA none 0, .box (b13 + 1 + 1) qN none 0, .box (b13 + 1) qY none 0, .box (b13) qX none 0]) (show ChkAll _ _ from ⟨⟨by have h1 := BoxT.lt (HD157.out.1); have h2 := hs225.out; omega, by decide⟩, ⟨by have h1 := BoxT.lt (HD157.out.2.1); have h2 := hs225.out; omega, by decide⟩, (by decide : ∀ b ∈ qS3, b.1.check = 0 ∧ b.2.check = 0), (by decide : ∀ b ∈ qS2, b.1.check = 0 ∧ b.2.check = 0), (by decide : ∀ b ∈ qS1, b.1.check = 0 ∧ b.2.check = 0), ⟨by have h1 := BoxT.lt (HD157.out.2.2.2.2.2.1); have h2 := hs225.out; omega, by decide⟩, ⟨by have h1 := BoxT.lt (HD157.out.2.2.2.2.2.2.1); have h2 := hs225.out; omega, by decide⟩, ⟨by have h1 := BoxT.lt (HD157.out.2.2.2.2.2.2.2.1); have h2 := hs225.out; omega, by decide⟩, ⟨by have h1 := BoxT.lt (HD157.out.2.2.2.2.2.2.2.2.1); have h2 := hs225.out; omega, by decide⟩, ⟨by have h1 := BoxT.lt (HD157.out.2.2.2.2.2.2.2.2.2.1); have h2 := hs225.out; omega, by decide⟩, trivial⟩) ⟨HF244.out.2.2.2.2.2.2.2.1, HF244.out.2.2.2.2.2.2.2.2.1, HF244.out.2.2.2.2.2.2.2.2.2.1, HF244.out.2.2.2.2.2.2.2.2.2.2.1, HF244.out.2.2.2.2.2.2.2.2.2.2.2.1, HF244.out.2.2.2.2.2.2.2.2.2.2.2.2.1, HF244.out.2.2.2.2.2.2.2.2.2.2.2.2.2.1, HF244.out.2.2.2.2.2.2.2.2.2.2.2.2.2.2.1, HF244.out.2.2.2.2.2.2.2.2.2.2.2.2.2.2.2.1, HF244.out.2.2.2.2.2.2.2.2.2.2.2.2.2.2.2.2.1, Facts.bel HF244.out⟩ (by decide) (HF244.out.1)
              simp only [qFG, Tm.kind, Tm.name, Tm.sort, Tm.kids, List.length_cons, List.length_nil, Nat.zero_add, Nat.reduceAdd] at HF245
              have HF245 := Lib.hid HF245
              obtain ⟨z246, z247, z248, z249, z250⟩ := box_at (show w239.heap[bx229]? = some (.cells #[.int .i64 0, .string ⟨#[]⟩, .int .i64 0, .slice none 0 0] 24 (0, 0)) from (HF244.out.2.2.1).1)
              go_wp2_with fail
              refine ⟨⟨fun _ => trivial, Facts.bel HF245.out⟩, ?_⟩
              clear z246 z247 z248 z249 z250
              obtain ⟨W251, hW9⟩ : ∃ V, V = (((w239.setCell ⟨bx229, 0, none⟩ (.int .i64 3)).setCell ⟨bx229, 1, none⟩ (.string ⟨#[102]⟩)).setCell ⟨bx229, 2, none⟩ (.int .i64 0)).setCell ⟨bx229, 3, none⟩ (.slice A240 3 c241) := ⟨_, rfl⟩
              rw [← hW9] at HF245 ⊢
              clear hW9
              clear HF244
              refine mix4_take (v := .int .i64 0) rfl rfl rfl (fun _ _ _ h => nomatch h.1) trivial (Facts.bel HF245.out) (fun Y _ _ => by (try simp only [Act.put]); go_simp) ?_
              refine mix4_nil ?_
              exact ⟨rfl, D156.heap.size, w169.heap.size, A163, c164, A170, c171, A233, c234, A240, c241, bx229, by kernel_rfl, Lib.hid ((show Facts D156 [.box bx229 qFG A240 c241, .box (b154 + 1) qQ none 0, .box (b154) qP none 0, .binds qS3 A5 c5, .binds qS2 A4 c4, .binds qS1 A3 c3, .box (b24 + 1) qB none 0, .box (b24) qA none 0, .box (b13 + 1 + 1) qN none 0, .box (b13 + 1) qY none 0, .box (b13) qX none 0] W251 from ⟨HF245.out.1, HF245.out.2.1, HF245.out.2.2.1, HF245.out.2.2.2.1, HF245.out.2.2.2.2.1, HF245.out.2.2.2.2.2.1, HF245.out.2.2.2.2.2.2.1, HF245.out.2.2.2.2.2.2.2.1, HF245.out.2.2.2.2.2.2.2.2.1, HF245.out.2.2.2.2.2.2.2.2.2.1, HF245.out.2.2.2.2.2.2.2.2.2.2.1, Facts.bel HF245.out⟩).unbase (Facts.bel HD157.out))⟩
          · skip
            refine mix4_op rfl rfl (fun K hK => ?_)
            have hs252 := Lib.hid (Facts.bel HF174.out).size
            go_wp2_with fail
            obtain ⟨W253, hW254⟩ : ∃ V, V = w169.alloc (boxOf (.mk 0 ⟨#[]⟩ 0 []) none 0) := ⟨_, rfl⟩
            have HF255 := HF174.out.boxed (t := .mk 0 ⟨#[]⟩ 0 []) (A := none) (c := 0) (nilRep _ _ _ _ _ (by decide))
            rw [← hW254] at HF255
            have HF255 := Lib.hid HF255
            simp only [boxOf, Tm.kind, Tm.name, Tm.sort, Tm.kids, List.length_nil] at hW254
            rw [← hW254]
            refine ⟨⟨fun _ => trivial, Facts.bel HF255.out⟩, ?_⟩
            clear hW254
            obtain ⟨bx256, hbx257⟩ : ∃ b, b = w169.heap.size := ⟨_, rfl⟩
            rw [← hbx257] at HF255 ⊢
            have hs252 : D156.heap.size ≤ bx256 := by rw [hbx257]; exact hs252.out
            have hs252 := Lib.hid hs252
            clear hbx257
            clear HF174
            refine mix4_op rfl rfl (fun K hK => ?_)
            go_wp2_with fail
            obtain ⟨W258, hW259⟩ : ∃ V, V = W253.alloc (.cells (itCells [(qQ, none, 0), (qG, A170, c171), (qQ, none, 0)]).toArray 24) := ⟨_, rfl⟩
            have HF260 := Lib.hid (HF255.out.slice _ hW259 (by simp) (fun x hx => by simp at hx; rcases hx with rfl | rfl | rfl; exact nilRep _ _ _ _ _ (by decide); exact HF255.out.2.1; exact nilRep _ _ _ _ _ (by decide)))
            simp only [itCells, Tm.cells, List.cons_append, List.nil_append, qQ, qG, Tm.kind, Tm.name, Tm.sort, Tm.kids, List.length_nil] at hW259
            rw [← hW259]
            refine ⟨⟨fun _ => trivial, Facts.bel HF260.out⟩, ?_⟩
            clear hW259
            clear HF255
            refine mix4_op rfl rfl (fun K hK => ?_)
            have C261 := app_any ⟨#[102]⟩ [qQ, qG, qQ] (some ⟨W253.heap.size, 0, none⟩) 3 W258 (by decide) (by simp) (by simp) (HF260.out.1)
            simp only [Tm.val, Tm.kind, Tm.name, Tm.sort, Tm.kids, List.length_cons, List.length_nil, Nat.zero_add, Nat.reduceAdd] at C261
            have C261 := Lib.hid C261
            go_wp2_with fail
            refine C261.out.mono ?_; clear C261
            rintro e w262 ⟨A263, c264, rfl, hr265, hb266⟩
            have HF267 := Lib.hid ((Facts.below hb266 HF260.out).add (.term qFQGQ A263 c264) hr265)
            refine hK _ _ ⟨⟨fun _ => trivial, Facts.bel HF267.out⟩, ?_⟩
            clear hK K
            clear HF260
            clear hr265 hb266
            refine mix4_op rfl rfl (fun K hK => ?_)
            have C268 := general_any qFPBP qFQGQ A163 A263 c164 c264 w0 w262 100 HII.out (HW0.out.trans ((Facts.bel (HF267.out.unbase (Facts.bel HD157.out))).mono HW0.out.size)) (by decide) (fun _ => by rw [aw_names]; decide) (by decide) (by decide) (HF267.out.2.2.2.2.1) (HF267.out.1)
            rw [aw_gen] at C268
            unfold Genl at C268
            simp only [Tm.val, qFPBP, qFQGQ, qFG, Tm.kind, Tm.name, Tm.sort, Tm.kids, List.length_cons, List.length_nil, Nat.zero_add, Nat.reduceAdd] at C268
            have C268 := Lib.hid C268
            go_wp2_with fail
            refine C268.out.mono ?_; clear C268
            rintro e w269 ⟨A270, c271, rfl, hr272, hb273⟩
            have HF274 := Lib.hid ((Facts.below hb273 HF267.out).add (.term qFG A270 c271) hr272)
            refine hK _ _ ⟨⟨fun _ => trivial, Facts.bel HF274.out⟩, ?_⟩
            clear hK K
            clear HF267
            clear hr272 hb273
            refine mix4_take (v := .tuple #[.agg #[.int .i64 3, .string ⟨#[102]⟩, .int .i64 0, .slice A270 3 c271], .int .i64 0]) rfl rfl rfl (fun _ _ _ h => nomatch h.1) trivial (Facts.bel HF274.out) (fun Y _ _ => by (try simp only [Act.put]); go_simp) ?_
            refine mix4_take (v := .agg #[.int .i64 3, .string ⟨#[102]⟩, .int .i64 0, .slice A270 3 c271]) rfl rfl rfl (fun _ _ _ h => nomatch h.1) trivial (Facts.bel HF274.out) (fun Y _ _ => by (try simp only [Act.put]); go_simp) ?_
            refine mix4_take (v := .int .i64 0) rfl rfl rfl (fun _ _ _ h => nomatch h.1) trivial (Facts.bel HF274.out) (fun Y _ _ => by (try simp only [Act.put]); go_simp) ?_
            try simp only [Act.put]
            refine mix4_op rfl rfl (fun K hK => ?_)
            have HF275 := Facts.stored (w := D156) (t := qFG) (A := A270) (c := c271) (HF274.out.2.2.2.1).1 hs252.out (fs := [.box (b154 + 1) qQ none 0, .box (b154) qP none 0, .binds qS3 A5 c5, .binds qS2 A4 c4, .binds qS1 A3 c3, .box (b24 + 1) qB none 0, .box (b24) qA none 0, .box (b13 + 1 + 1) qN none 0, .box (b13 + 1) qY none 0, .box (b13) qX none 0]) (show ChkAll _ _ from ⟨⟨by have h1 := BoxT.lt (HD157.out.1); have h2 := hs252.out; omega, by decide⟩, ⟨by have h1 := BoxT.lt (HD157.out.2.1); have h2 := hs252.out; omega, by decide⟩, (by decide : ∀ b ∈ qS3, b.1.check = 0 ∧ b.2.check = 0), (by decide : ∀ b ∈ qS2, b.1.check = 0 ∧ b.2.check = 0), (by decide : ∀ b ∈ qS1, b.1.check = 0 ∧ b.2.check = 0), ⟨by have h1 := BoxT.lt (HD157.out.2.2.2.2.2.1); have h2 := hs252.out; omega, by decide⟩, ⟨by have h1 := BoxT.lt (HD157.out.2.2.2.2.2.2.1); have h2 := hs252.out; omega, by decide⟩, ⟨by have h1 := BoxT.lt (HD157.out.2.2.2.2.2.2.2.1); have h2 := hs252.out; omega, by decide⟩, ⟨by have h1 := BoxT.lt (HD157.out.2.2.2.2.2.2.2.2.1); have h2 := hs252.out; omega, by decide⟩, ⟨by have h1 := BoxT.lt (HD157.out.2.2.2.2.2.2.2.2.2.1); have h2 := hs252.out; omega, by decide⟩, trivial⟩) ⟨HF274.out.2.2.2.2.2.2.2.1, HF274.out.2.2.2.2.2.2.2.2.1, HF274.out.2.2.2.2.2.2.2.2.2.1, HF274.out.2.2.2.2.2.2.2.2.2.2.1, HF274.out.2.2.2.2.2.2.2.2.2.2.2.1, HF274.out.2.2.2.2.2.2.2.2.2.2.2.2.1, HF274.out.2.2.2.2.2.2.2.2.2.2.2.2.2.1, HF274.out.2.2.2.2.2.2.2.2.2.2.2.2.2.2.1, HF274.out.2.2.2.2.2.2.2.2.2.2.2.2.2.2.2.1, HF274.out.2.2.2.2.2.2.2.2.2.2.2.2.2.2.2.2.1, Facts.bel HF274.out⟩ (by decide) (HF274.out.1)
            simp only [qFG, Tm.kind, Tm.name, Tm.sort, Tm.kids, List.length_cons, List.length_nil, Nat.zero_add, Nat.reduceAdd] at HF275
            have HF275 := Lib.hid HF275
            obtain ⟨z276, z277, z278, z279, z280⟩ := box_at (show w269.heap[bx256]? = some (.cells #[.int .i64 0, .string ⟨#[]⟩, .int .i64 0, .slice none 0 0] 24 (0, 0)) from (HF274.out.2.2.2.1).1)
            go_wp2_with fail
            refine ⟨⟨fun _ => trivial, Facts.bel HF275.out⟩, ?_⟩
            clear z276 z277 z278 z279 z280
            obtain ⟨W281, hW9⟩ : ∃ V, V = (((w269.setCell ⟨bx256, 0, none⟩ (.int .i64 3)).setCell ⟨bx256, 1, none⟩ (.string ⟨#[102]⟩)).setCell ⟨bx256, 2, none⟩ (.int .i64 0)).setCell ⟨bx256, 3, none⟩ (.slice A270 3 c271) := ⟨_, rfl⟩
            rw [← hW9] at HF275 ⊢
            clear hW9
            clear HF274
            refine mix4_take (v := .int .i64 0) rfl rfl rfl (fun _ _ _ h => nomatch h.1) trivial (Facts.bel HF275.out) (fun Y _ _ => by (try simp only [Act.put]); go_simp) ?_
            refine mix4_nil ?_
            exact ⟨rfl, D156.heap.size, W253.heap.size, A163, c164, A170, c171, A263, c264, A270, c271, bx256, by kernel_rfl, Lib.hid ((show Facts D156 [.box bx256 qFG A270 c271, .box (b154 + 1) qQ none 0, .box (b154) qP none 0, .binds qS3 A5 c5, .binds qS2 A4 c4, .binds qS1 A3 c3, .box (b24 + 1) qB none 0, .box (b24) qA none 0, .box (b13 + 1 + 1) qN none 0, .box (b13 + 1) qY none 0, .box (b13) qX none 0] W281 from ⟨HF275.out.1, HF275.out.2.1, HF275.out.2.2.1, HF275.out.2.2.2.1, HF275.out.2.2.2.2.1, HF275.out.2.2.2.2.2.1, HF275.out.2.2.2.2.2.2.1, HF275.out.2.2.2.2.2.2.2.1, HF275.out.2.2.2.2.2.2.2.2.1, HF275.out.2.2.2.2.2.2.2.2.2.1, HF275.out.2.2.2.2.2.2.2.2.2.2.1, Facts.bel HF275.out⟩).unbase (Facts.bel HD157.out))⟩
        · skip
          refine mix4_op rfl rfl (fun K hK => ?_)
          have hs282 := Lib.hid (Facts.bel HF167.out).size
          go_wp2_with fail
          obtain ⟨W283, hW284⟩ : ∃ V, V = w162.alloc (boxOf (.mk 0 ⟨#[]⟩ 0 []) none 0) := ⟨_, rfl⟩
          have HF285 := HF167.out.boxed (t := .mk 0 ⟨#[]⟩ 0 []) (A := none) (c := 0) (nilRep _ _ _ _ _ (by decide))
          rw [← hW284] at HF285
          have HF285 := Lib.hid HF285
          simp only [boxOf, Tm.kind, Tm.name, Tm.sort, Tm.kids, List.length_nil] at hW284
          rw [← hW284]
          refine ⟨⟨fun _ => trivial, Facts.bel HF285.out⟩, ?_⟩
          clear hW284
          obtain ⟨bx286, hbx287⟩ : ∃ b, b = w162.heap.size := ⟨_, rfl⟩
          rw [← hbx287] at HF285 ⊢
          have hs282 : D156.heap.size ≤ bx286 := by rw [hbx287]; exact hs282.out
          have hs282 := Lib.hid hs282
          clear hbx287
          clear HF167
          refine mix4_op rfl rfl (fun K hK => ?_)
          have C288 := app0_any ⟨#[103]⟩ W283 (by decide)
          simp only [Tm.val, Tm.kind, Tm.name, Tm.sort, Tm.kids, List.length_cons, List.length_nil, Nat.zero_add, Nat.reduceAdd] at C288
          have C288 := Lib.hid C288
          go_wp2_with fail
          refine C288.out.mono ?_; clear C288
          rintro e w289 ⟨A290, c291, rfl, hr292, hb293⟩
          have HF294 := Lib.hid ((Facts.below hb293 HF285.out).add (.term qG A290 c291) hr292)
          refine hK _ _ ⟨⟨fun _ => trivial, Facts.bel HF294.out⟩, ?_⟩
          clear hK K
          clear HF285
          clear hr292 hb293
          refine mix4_op rfl rfl (fun K hK => ?_)
          go_wp2_with fail
          obtain ⟨W295, hW296⟩ : ∃ V, V = w289.alloc (.cells (itCells [(qQ, none, 0), (qG, A290, c291), (qQ, none, 0)]).toArray 24) := ⟨_, rfl⟩
          have HF297 := Lib.hid (HF294.out.slice _ hW296 (by simp) (fun x hx => by simp at hx; rcases hx with rfl | rfl | rfl; exact nilRep _ _ _ _ _ (by decide); exact HF294.out.1; exact nilRep _ _ _ _ _ (by decide)))
          simp only [itCells, Tm.cells, List.cons_append, List.nil_append, qQ, qG, Tm.kind, Tm.name, Tm.sort, Tm.kids, List.length_nil] at hW296
          rw [← hW296]
          refine ⟨⟨fun _ => trivial, Facts.bel HF297.out⟩, ?_⟩
          clear hW296
          clear HF294
          refine mix4_op rfl rfl (fun K hK => ?_)
          have C298 := app_any ⟨#[102]⟩ [qQ, qG, qQ] (some ⟨w289.heap.size, 0, none⟩) 3 W295 (by decide) (by simp) (by simp) (HF297.out.1)
          simp only [Tm.val, Tm.kind, Tm.name, Tm.sort, Tm.kids, List.length_cons, List.length_nil, Nat.zero_add, Nat.reduceAdd] at C298
          have C298 := Lib.hid C298
          go_wp2_with fail
          refine C298.out.mono ?_; clear C298
          rintro e w299 ⟨A300, c301, rfl, hr302, hb303⟩
          have HF304 := Lib.hid ((Facts.below hb303 HF297.out).add (.term qFQGQ A300 c301) hr302)
          refine hK _ _ ⟨⟨fun _ => trivial, Facts.bel HF304.out⟩, ?_⟩
          clear hK K
          clear HF297
          clear hr302 hb303
          refine mix4_op rfl rfl (fun K hK => ?_)
          have C305 := general_any qFPBP qFQGQ A163 A300 c164 c301 w0 w299 100 HII.out (HW0.out.trans ((Facts.bel (HF304.out.unbase (Facts.bel HD157.out))).mono HW0.out.size)) (by decide) (fun _ => by rw [aw_names]; decide) (by decide) (by decide) (HF304.out.2.2.2.2.1) (HF304.out.1)
          rw [aw_gen] at C305
          unfold Genl at C305
          simp only [Tm.val, qFPBP, qFQGQ, qFG, Tm.kind, Tm.name, Tm.sort, Tm.kids, List.length_cons, List.length_nil, Nat.zero_add, Nat.reduceAdd] at C305
          have C305 := Lib.hid C305
          go_wp2_with fail
          refine C305.out.mono ?_; clear C305
          rintro e w306 ⟨A307, c308, rfl, hr309, hb310⟩
          have HF311 := Lib.hid ((Facts.below hb310 HF304.out).add (.term qFG A307 c308) hr309)
          refine hK _ _ ⟨⟨fun _ => trivial, Facts.bel HF311.out⟩, ?_⟩
          clear hK K
          clear HF304
          clear hr309 hb310
          refine mix4_take (v := .tuple #[.agg #[.int .i64 3, .string ⟨#[102]⟩, .int .i64 0, .slice A307 3 c308], .int .i64 0]) rfl rfl rfl (fun _ _ _ h => nomatch h.1) trivial (Facts.bel HF311.out) (fun Y _ _ => by (try simp only [Act.put]); go_simp) ?_
          refine mix4_take (v := .agg #[.int .i64 3, .string ⟨#[102]⟩, .int .i64 0, .slice A307 3 c308]) rfl rfl rfl (fun _ _ _ h => nomatch h.1) trivial (Facts.bel HF311.out) (fun Y _ _ => by (try simp only [Act.put]); go_simp) ?_
          refine mix4_take (v := .int .i64 0) rfl rfl rfl (fun _ _ _ h => nomatch h.1) trivial (Facts.bel HF311.out) (fun Y _ _ => by (try simp only [Act.put]); go_simp) ?_
          try simp only [Act.put]
          refine mix4_op rfl rfl (fun K hK => ?_)
          have HF312 := Facts.stored (w := D156) (t := qFG) (A := A307) (c := c308) (HF311.out.2.2.2.2.1).1 hs282.out (fs := [.box (b154 + 1) qQ none 0, .box (b154) qP none 0, .binds qS3 A5 c5, .binds qS2 A4 c4, .binds qS1 A3 c3, .box (b24 + 1) qB none 0, .box (b24) qA none 0, .box (b13 + 1 + 1) qN none 0, .box (b13 + 1) qY none 0, .box (b13) qX none 0]) (show ChkAll _ _ from ⟨⟨by have h1 := BoxT.lt (HD157.out.1); have h2 := hs282.out; omega, by decide⟩, ⟨by have h1 := BoxT.lt (HD157.out.2.1); have h2 := hs282.out; omega, by decide⟩, (by decide : ∀ b ∈ qS3, b.1.check = 0 ∧ b.2.check = 0), (by decide : ∀ b ∈ qS2, b.1.check = 0 ∧ b.2.check = 0), (by decide : ∀ b ∈ qS1, b.1.check = 0 ∧ b.2.check = 0), ⟨by have h1 := BoxT.lt (HD157.out.2.2.2.2.2.1); have h2 := hs282.out; omega, by decide⟩, ⟨by have h1 := BoxT.lt (HD157.out.2.2.2.2.2.2.1); have h2 := hs282.out; omega, by decide⟩, ⟨by have h1 := BoxT.lt (HD157.out.2.2.2.2.2.2.2.1); have h2 := hs282.out; omega, by decide⟩, ⟨by have h1 := BoxT.lt (HD157.out.2.2.2.2.2.2.2.2.1); have h2 := hs282.out; omega, by decide⟩, ⟨by have h1 := BoxT.lt (HD157.out.2.2.2.2.2.2.2.2.2.1); have h2 := hs282.out; omega, by decide⟩, trivial⟩) ⟨HF311.out.2.2.2.2.2.2.2.1, HF311.out.2.2.2.2.2.2.2.2.1, HF311.out.2.2.2.2.2.2.2.2.2.1, HF311.out.2.2.2.2.2.2.2.2.2.2.1, HF311.out.2.2.2.2.2.2.2.2.2.2.2.1, HF311.out.2.2.2.2.2.2.2.2.2.2.2.2.1, HF311.out.2.2.2.2.2.2.2.2.2.2.2.2.2.1, HF311.out.2.2.2.2.2.2.2.2.2.2.2.2.2.2.1, HF311.out.2.2.2.2.2.2.2.2.2.2.2.2.2.2.2.1, HF311.out.2.2.2.2.2.2.2.2.2.2.2.2.2.2.2.2.1, Facts.bel HF311.out⟩ (by decide) (HF311.out.1)
          simp only [qFG, Tm.kind, Tm.name, Tm.sort, Tm.kids, List.length_cons, List.length_nil, Nat.zero_add, Nat.reduceAdd] at HF312
          have HF312 := Lib.hid HF312
          obtain ⟨z313, z314, z315, z316, z317⟩ := box_at (show w306.heap[bx286]? = some (.cells #[.int .i64 0, .string ⟨#[]⟩, .int .i64 0, .slice none 0 0] 24 (0, 0)) from (HF311.out.2.2.2.2.1).1)
          go_wp2_with fail
          refine ⟨⟨fun _ => trivial, Facts.bel HF312.out⟩, ?_⟩
          clear z313 z314 z315 z316 z317
          obtain ⟨W318, hW9⟩ : ∃ V, V = (((w306.setCell ⟨bx286, 0, none⟩ (.int .i64 3)).setCell ⟨bx286, 1, none⟩ (.string ⟨#[102]⟩)).setCell ⟨bx286, 2, none⟩ (.int .i64 0)).setCell ⟨bx286, 3, none⟩ (.slice A307 3 c308) := ⟨_, rfl⟩
          rw [← hW9] at HF312 ⊢
          clear hW9
          clear HF311
          refine mix4_take (v := .int .i64 0) rfl rfl rfl (fun _ _ _ h => nomatch h.1) trivial (Facts.bel HF312.out) (fun Y _ _ => by (try simp only [Act.put]); go_simp) ?_
          refine mix4_nil ?_
          exact ⟨rfl, D156.heap.size, w289.heap.size, A163, c164, A290, c291, A300, c301, A307, c308, bx286, by kernel_rfl, Lib.hid ((show Facts D156 [.box bx286 qFG A307 c308, .box (b154 + 1) qQ none 0, .box (b154) qP none 0, .binds qS3 A5 c5, .binds qS2 A4 c4, .binds qS1 A3 c3, .box (b24 + 1) qB none 0, .box (b24) qA none 0, .box (b13 + 1 + 1) qN none 0, .box (b13 + 1) qY none 0, .box (b13) qX none 0] W318 from ⟨HF312.out.1, HF312.out.2.1, HF312.out.2.2.1, HF312.out.2.2.2.1, HF312.out.2.2.2.2.1, HF312.out.2.2.2.2.2.1, HF312.out.2.2.2.2.2.2.1, HF312.out.2.2.2.2.2.2.2.1, HF312.out.2.2.2.2.2.2.2.2.1, HF312.out.2.2.2.2.2.2.2.2.2.1, HF312.out.2.2.2.2.2.2.2.2.2.2.1, Facts.bel HF312.out⟩).unbase (Facts.bel HD157.out))⟩
      · skip
        refine mix4_op rfl rfl (fun K hK => ?_)
        have hs319 := Lib.hid (Facts.bel HF160.out).size
        go_wp2_with fail
        obtain ⟨W320, hW321⟩ : ∃ V, V = W158.alloc (boxOf (.mk 0 ⟨#[]⟩ 0 []) none 0) := ⟨_, rfl⟩
        have HF322 := HF160.out.boxed (t := .mk 0 ⟨#[]⟩ 0 []) (A := none) (c := 0) (nilRep _ _ _ _ _ (by decide))
        rw [← hW321] at HF322
        have HF322 := Lib.hid HF322
        simp only [boxOf, Tm.kind, Tm.name, Tm.sort, Tm.kids, List.length_nil] at hW321
        rw [← hW321]
        refine ⟨⟨fun _ => trivial, Facts.bel HF322.out⟩, ?_⟩
        clear hW321
        obtain ⟨bx323, hbx324⟩ : ∃ b, b = W158.heap.size := ⟨_, rfl⟩
        rw [← hbx324] at HF322 ⊢
        have hs319 : D156.heap.size ≤ bx323 := by rw [hbx324]; exact hs319.out
        have hs319 := Lib.hid hs319
        clear hbx324
        clear HF160
        refine mix4_op rfl rfl (fun K hK => ?_)
        have C325 := app_any ⟨#[102]⟩ [qP, qB, qP] (some ⟨D156.heap.size, 0, none⟩) 3 W320 (by decide) (by simp) (by simp) (HF322.out.2.1)
        simp only [Tm.val, Tm.kind, Tm.name, Tm.sort, Tm.kids, List.length_cons, List.length_nil, Nat.zero_add, Nat.reduceAdd] at C325
        have C325 := Lib.hid C325
        go_wp2_with fail
        refine C325.out.mono ?_; clear C325
        rintro e w326 ⟨A327, c328, rfl, hr329, hb330⟩
        have HF331 := Lib.hid ((Facts.below hb330 HF322.out).add (.term qFPBP A327 c328) hr329)
        refine hK _ _ ⟨⟨fun _ => trivial, Facts.bel HF331.out⟩, ?_⟩
        clear hK K
        clear HF322
        clear hr329 hb330
        refine mix4_op rfl rfl (fun K hK => ?_)
        have C332 := app0_any ⟨#[103]⟩ w326 (by decide)
        simp only [Tm.val, Tm.kind, Tm.name, Tm.sort, Tm.kids, List.length_cons, List.length_nil, Nat.zero_add, Nat.reduceAdd] at C332
        have C332 := Lib.hid C332
        go_wp2_with fail
        refine C332.out.mono ?_; clear C332
        rintro e w333 ⟨A334, c335, rfl, hr336, hb337⟩
        have HF338 := Lib.hid ((Facts.below hb337 HF331.out).add (.term qG A334 c335) hr336)
        refine hK _ _ ⟨⟨fun _ => trivial, Facts.bel HF338.out⟩, ?_⟩
        clear hK K
        clear HF331
        clear hr336 hb337
        refine mix4_op rfl rfl (fun K hK => ?_)
        go_wp2_with fail
        obtain ⟨W339, hW340⟩ : ∃ V, V = w333.alloc (.cells (itCells [(qQ, none, 0), (qG, A334, c335), (qQ, none, 0)]).toArray 24) := ⟨_, rfl⟩
        have HF341 := Lib.hid (HF338.out.slice _ hW340 (by simp) (fun x hx => by simp at hx; rcases hx with rfl | rfl | rfl; exact nilRep _ _ _ _ _ (by decide); exact HF338.out.1; exact nilRep _ _ _ _ _ (by decide)))
        simp only [itCells, Tm.cells, List.cons_append, List.nil_append, qQ, qG, Tm.kind, Tm.name, Tm.sort, Tm.kids, List.length_nil] at hW340
        rw [← hW340]
        refine ⟨⟨fun _ => trivial, Facts.bel HF341.out⟩, ?_⟩
        clear hW340
        clear HF338
        refine mix4_op rfl rfl (fun K hK => ?_)
        have C342 := app_any ⟨#[102]⟩ [qQ, qG, qQ] (some ⟨w333.heap.size, 0, none⟩) 3 W339 (by decide) (by simp) (by simp) (HF341.out.1)
        simp only [Tm.val, Tm.kind, Tm.name, Tm.sort, Tm.kids, List.length_cons, List.length_nil, Nat.zero_add, Nat.reduceAdd] at C342
        have C342 := Lib.hid C342
        go_wp2_with fail
        refine C342.out.mono ?_; clear C342
        rintro e w343 ⟨A344, c345, rfl, hr346, hb347⟩
        have HF348 := Lib.hid ((Facts.below hb347 HF341.out).add (.term qFQGQ A344 c345) hr346)
        refine hK _ _ ⟨⟨fun _ => trivial, Facts.bel HF348.out⟩, ?_⟩
        clear hK K
        clear HF341
        clear hr346 hb347
        refine mix4_op rfl rfl (fun K hK => ?_)
        have C349 := general_any qFPBP qFQGQ A327 A344 c328 c345 w0 w343 100 HII.out (HW0.out.trans ((Facts.bel (HF348.out.unbase (Facts.bel HD157.out))).mono HW0.out.size)) (by decide) (fun _ => by rw [aw_names]; decide) (by decide) (by decide) (HF348.out.2.2.2.1) (HF348.out.1)
        rw [aw_gen] at C349
        unfold Genl at C349
        simp only [Tm.val, qFPBP, qFQGQ, qFG, Tm.kind, Tm.name, Tm.sort, Tm.kids, List.length_cons, List.length_nil, Nat.zero_add, Nat.reduceAdd] at C349
        have C349 := Lib.hid C349
        go_wp2_with fail
        refine C349.out.mono ?_; clear C349
        rintro e w350 ⟨A351, c352, rfl, hr353, hb354⟩
        have HF355 := Lib.hid ((Facts.below hb354 HF348.out).add (.term qFG A351 c352) hr353)
        refine hK _ _ ⟨⟨fun _ => trivial, Facts.bel HF355.out⟩, ?_⟩
        clear hK K
        clear HF348
        clear hr353 hb354
        refine mix4_take (v := .tuple #[.agg #[.int .i64 3, .string ⟨#[102]⟩, .int .i64 0, .slice A351 3 c352], .int .i64 0]) rfl rfl rfl (fun _ _ _ h => nomatch h.1) trivial (Facts.bel HF355.out) (fun Y _ _ => by (try simp only [Act.put]); go_simp) ?_
        refine mix4_take (v := .agg #[.int .i64 3, .string ⟨#[102]⟩, .int .i64 0, .slice A351 3 c352]) rfl rfl rfl (fun _ _ _ h => nomatch h.1) trivial (Facts.bel HF355.out) (fun Y _ _ => by (try simp only [Act.put]); go_simp) ?_
        refine mix4_take (v := .int .i64 0) rfl rfl rfl (fun _ _ _ h => nomatch h.1) trivial (Facts.bel HF355.out) (fun Y _ _ => by (try simp only [Act.put]); go_simp) ?_
        try simp only [Act.put]
        refine mix4_op rfl rfl (fun K hK => ?_)
        have HF356 := Facts.stored (w := D156) (t := qFG) (A := A351) (c := c352) (HF355.out.2.2.2.2.2.1).1 hs319.out (fs := [.box (b154 + 1) qQ none 0, .box (b154) qP none 0, .binds qS3 A5 c5, .binds qS2 A4 c4, .binds qS1 A3 c3, .box (b24 + 1) qB none 0, .box (b24) qA none 0, .box (b13 + 1 + 1) qN none 0, .box (b13 + 1) qY none 0, .box (b13) qX none 0]) (show ChkAll _ _ from ⟨⟨by have h1 := BoxT.lt (HD157.out.1); have h2 := hs319.out; omega, by decide⟩, ⟨by have h1 := BoxT.lt (HD157.out.2.1); have h2 := hs319.out; omega, by decide⟩, (by decide : ∀ b ∈ qS3, b.1.check = 0 ∧ b.2.check = 0), (by decide : ∀ b ∈ qS2, b.1.check = 0 ∧ b.2.check = 0), (by decide : ∀ b ∈ qS1, b.1.check = 0 ∧ b.2.check = 0), ⟨by have h1 := BoxT.lt (HD157.out.2.2.2.2.2.1); have h2 := hs319.out; omega, by decide⟩, ⟨by have h1 := BoxT.lt (HD157.out.2.2.2.2.2.2.1); have h2 := hs319.out; omega, by decide⟩, ⟨by have h1 := BoxT.lt (HD157.out.2.2.2.2.2.2.2.1); have h2 := hs319.out; omega, by decide⟩, ⟨by have h1 := BoxT.lt (HD157.out.2.2.2.2.2.2.2.2.1); have h2 := hs319.out; omega, by decide⟩, ⟨by have h1 := BoxT.lt (HD157.out.2.2.2.2.2.2.2.2.2.1); have h2 := hs319.out; omega, by decide⟩, trivial⟩) ⟨HF355.out.2.2.2.2.2.2.2.1, HF355.out.2.2.2.2.2.2.2.2.1, HF355.out.2.2.2.2.2.2.2.2.2.1, HF355.out.2.2.2.2.2.2.2.2.2.2.1, HF355.out.2.2.2.2.2.2.2.2.2.2.2.1, HF355.out.2.2.2.2.2.2.2.2.2.2.2.2.1, HF355.out.2.2.2.2.2.2.2.2.2.2.2.2.2.1, HF355.out.2.2.2.2.2.2.2.2.2.2.2.2.2.2.1, HF355.out.2.2.2.2.2.2.2.2.2.2.2.2.2.2.2.1, HF355.out.2.2.2.2.2.2.2.2.2.2.2.2.2.2.2.2.1, Facts.bel HF355.out⟩ (by decide) (HF355.out.1)
        simp only [qFG, Tm.kind, Tm.name, Tm.sort, Tm.kids, List.length_cons, List.length_nil, Nat.zero_add, Nat.reduceAdd] at HF356
        have HF356 := Lib.hid HF356
        obtain ⟨z357, z358, z359, z360, z361⟩ := box_at (show w350.heap[bx323]? = some (.cells #[.int .i64 0, .string ⟨#[]⟩, .int .i64 0, .slice none 0 0] 24 (0, 0)) from (HF355.out.2.2.2.2.2.1).1)
        go_wp2_with fail
        refine ⟨⟨fun _ => trivial, Facts.bel HF356.out⟩, ?_⟩
        clear z357 z358 z359 z360 z361
        obtain ⟨W362, hW9⟩ : ∃ V, V = (((w350.setCell ⟨bx323, 0, none⟩ (.int .i64 3)).setCell ⟨bx323, 1, none⟩ (.string ⟨#[102]⟩)).setCell ⟨bx323, 2, none⟩ (.int .i64 0)).setCell ⟨bx323, 3, none⟩ (.slice A351 3 c352) := ⟨_, rfl⟩
        rw [← hW9] at HF356 ⊢
        clear hW9
        clear HF355
        refine mix4_take (v := .int .i64 0) rfl rfl rfl (fun _ _ _ h => nomatch h.1) trivial (Facts.bel HF356.out) (fun Y _ _ => by (try simp only [Act.put]); go_simp) ?_
        refine mix4_nil ?_
        exact ⟨rfl, D156.heap.size, w333.heap.size, A327, c328, A334, c335, A344, c345, A351, c352, bx323, by kernel_rfl, Lib.hid ((show Facts D156 [.box bx323 qFG A351 c352, .box (b154 + 1) qQ none 0, .box (b154) qP none 0, .binds qS3 A5 c5, .binds qS2 A4 c4, .binds qS1 A3 c3, .box (b24 + 1) qB none 0, .box (b24) qA none 0, .box (b13 + 1 + 1) qN none 0, .box (b13 + 1) qY none 0, .box (b13) qX none 0] W362 from ⟨HF356.out.1, HF356.out.2.1, HF356.out.2.2.1, HF356.out.2.2.2.1, HF356.out.2.2.2.2.1, HF356.out.2.2.2.2.2.1, HF356.out.2.2.2.2.2.2.1, HF356.out.2.2.2.2.2.2.2.1, HF356.out.2.2.2.2.2.2.2.2.1, HF356.out.2.2.2.2.2.2.2.2.2.1, HF356.out.2.2.2.2.2.2.2.2.2.2.1, Facts.bel HF356.out⟩).unbase (Facts.bel HD157.out))⟩
    · skip
      refine mix4_op rfl rfl (fun K hK => ?_)
      have hs363 := Lib.hid (Facts.bel HD157b.out).size
      go_wp2_with fail
      obtain ⟨W364, hW365⟩ : ∃ V, V = D156.alloc (boxOf (.mk 0 ⟨#[]⟩ 0 []) none 0) := ⟨_, rfl⟩
      have HF366 := HD157b.out.boxed (t := .mk 0 ⟨#[]⟩ 0 []) (A := none) (c := 0) (nilRep _ _ _ _ _ (by decide))
      rw [← hW365] at HF366
      have HF366 := Lib.hid HF366
      simp only [boxOf, Tm.kind, Tm.name, Tm.sort, Tm.kids, List.length_nil] at hW365
      rw [← hW365]
      refine ⟨⟨fun _ => trivial, Facts.bel HF366.out⟩, ?_⟩
      clear hW365
      obtain ⟨bx367, hbx368⟩ : ∃ b, b = D156.heap.size := ⟨_, rfl⟩
      rw [← hbx368] at HF366 ⊢
      have hs363 : D156.heap.size ≤ bx367 := by rw [hbx368]; exact hs363.out
      have hs363 := Lib.hid hs363
      clear hbx368
      clear HD157b
      refine mix4_op rfl rfl (fun K hK => ?_)
      go_wp2_with fail
      obtain ⟨W369, hW370⟩ : ∃ V, V = W364.alloc (.cells (itCells [(qP, none, 0), (qB, none, 0), (qP, none, 0)]).toArray 24) := ⟨_, rfl⟩
      have HF371 := Lib.hid (HF366.out.slice _ hW370 (by simp) (fun x hx => by simp at hx; rcases hx with rfl | rfl | rfl <;> exact nilRep _ _ _ _ _ (by decide)))
      simp only [itCells, Tm.cells, List.cons_append, List.nil_append, qP, qB, Tm.kind, Tm.name, Tm.sort, Tm.kids, List.length_nil] at hW370
      rw [← hW370]
      refine ⟨⟨fun _ => trivial, Facts.bel HF371.out⟩, ?_⟩
      clear hW370
      clear HF366
      refine mix4_op rfl rfl (fun K hK => ?_)
      have C372 := app_any ⟨#[102]⟩ [qP, qB, qP] (some ⟨W364.heap.size, 0, none⟩) 3 W369 (by decide) (by simp) (by simp) (HF371.out.1)
      simp only [Tm.val, Tm.kind, Tm.name, Tm.sort, Tm.kids, List.length_cons, List.length_nil, Nat.zero_add, Nat.reduceAdd] at C372
      have C372 := Lib.hid C372
      go_wp2_with fail
      refine C372.out.mono ?_; clear C372
      rintro e w373 ⟨A374, c375, rfl, hr376, hb377⟩
      have HF378 := Lib.hid ((Facts.below hb377 HF371.out).add (.term qFPBP A374 c375) hr376)
      refine hK _ _ ⟨⟨fun _ => trivial, Facts.bel HF378.out⟩, ?_⟩
      clear hK K
      clear HF371
      clear hr376 hb377
      refine mix4_op rfl rfl (fun K hK => ?_)
      have C379 := app0_any ⟨#[103]⟩ w373 (by decide)
      simp only [Tm.val, Tm.kind, Tm.name, Tm.sort, Tm.kids, List.length_cons, List.length_nil, Nat.zero_add, Nat.reduceAdd] at C379
      have C379 := Lib.hid C379
      go_wp2_with fail
      refine C379.out.mono ?_; clear C379
      rintro e w380 ⟨A381, c382, rfl, hr383, hb384⟩
      have HF385 := Lib.hid ((Facts.below hb384 HF378.out).add (.term qG A381 c382) hr383)
      refine hK _ _ ⟨⟨fun _ => trivial, Facts.bel HF385.out⟩, ?_⟩
      clear hK K
      clear HF378
      clear hr383 hb384
      refine mix4_op rfl rfl (fun K hK => ?_)
      go_wp2_with fail
      obtain ⟨W386, hW387⟩ : ∃ V, V = w380.alloc (.cells (itCells [(qQ, none, 0), (qG, A381, c382), (qQ, none, 0)]).toArray 24) := ⟨_, rfl⟩
      have HF388 := Lib.hid (HF385.out.slice _ hW387 (by simp) (fun x hx => by simp at hx; rcases hx with rfl | rfl | rfl; exact nilRep _ _ _ _ _ (by decide); exact HF385.out.1; exact nilRep _ _ _ _ _ (by decide)))
      simp only [itCells, Tm.cells, List.cons_append, List.nil_append, qQ, qG, Tm.kind, Tm.name, Tm.sort, Tm.kids, List.length_nil] at hW387
      rw [← hW387]
      refine ⟨⟨fun _ => trivial, Facts.bel HF388.out⟩, ?_⟩
      clear hW387
      clear HF385
      refine mix4_op rfl rfl (fun K hK => ?_)
      have C389 := app_any ⟨#[102]⟩ [qQ, qG, qQ] (some ⟨w380.heap.size, 0, none⟩) 3 W386 (by decide) (by simp) (by simp) (HF388.out.1)
      simp only [Tm.val, Tm.kind, Tm.name, Tm.sort, Tm.kids, List.length_cons, List.length_nil, Nat.zero_add, Nat.reduceAdd] at C389
      have C389 := Lib.hid C389
      go_wp2_with fail
      refine C389.out.mono ?_; clear C389
      rintro e w390 ⟨A391, c392, rfl, hr393, hb394⟩
      have HF395 := Lib.hid ((Facts.below hb394 HF388.out).add (.term qFQGQ A391 c392) hr393)
      refine hK _ _ ⟨⟨fun _ => trivial, Facts.bel HF395.out⟩, ?_⟩
      clear hK K
      clear HF388
      clear hr393 hb394
      refine mix4_op rfl rfl (fun K hK => ?_)
      have C396 := general_any qFPBP qFQGQ A374 A391 c375 c392 w0 w390 100 HII.out (HW0.out.trans ((Facts.bel (HF395.out.unbase (Facts.bel HD157.out))).mono HW0.out.size)) (by decide) (fun _ => by rw [aw_names]; decide) (by decide) (by decide) (HF395.out.2.2.2.1) (HF395.out.1)
      rw [aw_gen] at C396
      unfold Genl at C396
      simp only [Tm.val, qFPBP, qFQGQ, qFG, Tm.kind, Tm.name, Tm.sort, Tm.kids, List.length_cons, List.length_nil, Nat.zero_add, Nat.reduceAdd] at C396
      have C396 := Lib.hid C396
      go_wp2_with fail
      refine C396.out.mono ?_; clear C396
      rintro e w397 ⟨A398, c399, rfl, hr400, hb401⟩
      have HF402 := Lib.hid ((Facts.below hb401 HF395.out).add (.term qFG A398 c399) hr400)
      refine hK _ _ ⟨⟨fun _ => trivial, Facts.bel HF402.out⟩, ?_⟩
      clear hK K
      clear HF395
      clear hr400 hb401
      refine mix4_take (v := .tuple #[.agg #[.int .i64 3, .string ⟨#[102]⟩, .int .i64 0, .slice A398 3 c399], .int .i64 0]) rfl rfl rfl (fun _ _ _ h => nomatch h.1) trivial (Facts.bel HF402.out) (fun Y _ _ => by (try simp only [Act.put]); go_simp) ?_
      refine mix4_take (v := .agg #[.int .i64 3, .string ⟨#[102]⟩, .int .i64 0, .slice A398 3 c399]) rfl rfl rfl (fun _ _ _ h => nomatch h.1) trivial (Facts.bel HF402.out) (fun Y _ _ => by (try simp only [Act.put]); go_simp) ?_
      refine mix4_take (v := .int .i64 0) rfl rfl rfl (fun _ _ _ h => nomatch h.1) trivial (Facts.bel HF402.out) (fun Y _ _ => by (try simp only [Act.put]); go_simp) ?_
      try simp only [Act.put]
      refine mix4_op rfl rfl (fun K hK => ?_)
      have HF403 := Facts.stored (w := D156) (t := qFG) (A := A398) (c := c399) (HF402.out.2.2.2.2.2.2.1).1 hs363.out (fs := [.box (b154 + 1) qQ none 0, .box (b154) qP none 0, .binds qS3 A5 c5, .binds qS2 A4 c4, .binds qS1 A3 c3, .box (b24 + 1) qB none 0, .box (b24) qA none 0, .box (b13 + 1 + 1) qN none 0, .box (b13 + 1) qY none 0, .box (b13) qX none 0]) (show ChkAll _ _ from ⟨⟨by have h1 := BoxT.lt (HD157.out.1); have h2 := hs363.out; omega, by decide⟩, ⟨by have h1 := BoxT.lt (HD157.out.2.1); have h2 := hs363.out; omega, by decide⟩, (by decide : ∀ b ∈ qS3, b.1.check = 0 ∧ b.2.check = 0), (by decide : ∀ b ∈ qS2, b.1.check = 0 ∧ b.2.check = 0), (by decide : ∀ b ∈ qS1, b.1.check = 0 ∧ b.2.check = 0), ⟨by have h1 := BoxT.lt (HD157.out.2.2.2.2.2.1); have h2 := hs363.out; omega, by decide⟩, ⟨by have h1 := BoxT.lt (HD157.out.2.2.2.2.2.2.1); have h2 := hs363.out; omega, by decide⟩, ⟨by have h1 := BoxT.lt (HD157.out.2.2.2.2.2.2.2.1); have h2 := hs363.out; omega, by decide⟩, ⟨by have h1 := BoxT.lt (HD157.out.2.2.2.2.2.2.2.2.1); have h2 := hs363.out; omega, by decide⟩, ⟨by have h1 := BoxT.lt (HD157.out.2.2.2.2.2.2.2.2.2.1); have h2 := hs363.out; omega, by decide⟩, trivial⟩) ⟨HF402.out.2.2.2.2.2.2.2.1, HF402.out.2.2.2.2.2.2.2.2.1, HF402.out.2.2.2.2.2.2.2.2.2.1, HF402.out.2.2.2.2.2.2.2.2.2.2.1, HF402.out.2.2.2.2.2.2.2.2.2.2.2.1, HF402.out.2.2.2.2.2.2.2.2.2.2.2.2.1, HF402.out.2.2.2.2.2.2.2.2.2.2.2.2.2.1, HF402.out.2.2.2.2.2.2.2.2.2.2.2.2.2.2.1, HF402.out.2.2.2.2.2.2.2.2.2.2.2.2.2.2.2.1, HF402.out.2.2.2.2.2.2.2.2.2.2.2.2.2.2.2.2.1, Facts.bel HF402.out⟩ (by decide) (HF402.out.1)
      simp only [qFG, Tm.kind, Tm.name, Tm.sort, Tm.kids, List.length_cons, List.length_nil, Nat.zero_add, Nat.reduceAdd] at HF403
      have HF403 := Lib.hid HF403
      obtain ⟨z404, z405, z406, z407, z408⟩ := box_at (show w397.heap[bx367]? = some (.cells #[.int .i64 0, .string ⟨#[]⟩, .int .i64 0, .slice none 0 0] 24 (0, 0)) from (HF402.out.2.2.2.2.2.2.1).1)
      go_wp2_with fail
      refine ⟨⟨fun _ => trivial, Facts.bel HF403.out⟩, ?_⟩
      clear z404 z405 z406 z407 z408
      obtain ⟨W409, hW9⟩ : ∃ V, V = (((w397.setCell ⟨bx367, 0, none⟩ (.int .i64 3)).setCell ⟨bx367, 1, none⟩ (.string ⟨#[102]⟩)).setCell ⟨bx367, 2, none⟩ (.int .i64 0)).setCell ⟨bx367, 3, none⟩ (.slice A398 3 c399) := ⟨_, rfl⟩
      rw [← hW9] at HF403 ⊢
      clear hW9
      clear HF402
      refine mix4_take (v := .int .i64 0) rfl rfl rfl (fun _ _ _ h => nomatch h.1) trivial (Facts.bel HF403.out) (fun Y _ _ => by (try simp only [Act.put]); go_simp) ?_
      refine mix4_nil ?_
      exact ⟨rfl, W364.heap.size, w380.heap.size, A374, c375, A381, c382, A391, c392, A398, c399, bx367, by kernel_rfl, Lib.hid ((show Facts D156 [.box bx367 qFG A398 c399, .box (b154 + 1) qQ none 0, .box (b154) qP none 0, .binds qS3 A5 c5, .binds qS2 A4 c4, .binds qS1 A3 c3, .box (b24 + 1) qB none 0, .box (b24) qA none 0, .box (b13 + 1 + 1) qN none 0, .box (b13 + 1) qY none 0, .box (b13) qX none 0] W409 from ⟨HF403.out.1, HF403.out.2.1, HF403.out.2.2.1, HF403.out.2.2.2.1, HF403.out.2.2.2.2.1, HF403.out.2.2.2.2.2.1, HF403.out.2.2.2.2.2.2.1, HF403.out.2.2.2.2.2.2.2.1, HF403.out.2.2.2.2.2.2.2.2.1, HF403.out.2.2.2.2.2.2.2.2.2.1, HF403.out.2.2.2.2.2.2.2.2.2.2.1, Facts.bel HF403.out⟩).unbase (Facts.bel HD157.out))⟩
  rintro a' w9 ⟨B3, B4, A21, c21, A22, c22, A23, c23, A7, c7, bx, rfl, HR9⟩
  clear HF153
  go_wp2_with fail
  refine (var_any ⟨#[103, 48]⟩ 2 w9).mono ?_
  rintro e w410 ⟨rfl, hl411⟩
  have HF412 := Lib.hid (Facts.below hl411.below HR9.out)
  clear HR9
  clear hl411
  simp only [Tm.val, Tm.kind, Tm.name, Tm.sort, Tm.kids, List.length_nil]
  go_wp2_with fail
  obtain ⟨V413, hV414⟩ : ∃ V, V = (w410.alloc (boxOf qG0 none 0)) := ⟨_, rfl⟩
  have HF415 := HF412.out.boxed (t := qG0) (A := none) (c := 0) (nilRep _ _ _ _ _ (by decide))
  rw [← hV414] at HF415
  simp only [boxOf, qG0, Tm.kind, Tm.name, Tm.sort, Tm.kids, List.length_nil] at hV414
  obtain ⟨b416, hb417⟩ : ∃ b, b = w410.heap.size := ⟨_, rfl⟩
  rw [← hV414, ← hb417]
  rw [← hb417] at HF415
  have HF415 := Lib.hid HF415
  clear hV414 hb417 HF412
  refine wp_region_mix4 (fun _ => True) (SinceW V413.drew) [] (.held 0 (.held 1 (.held 2 (.held 3 (.held 4 (.held 5 (.held 6 (.op 7 (.op 8 (.held 9 (.held 10 (.held 11 (.held 12 (.held 13 (.op 14 (.op 15 (.held 16 (.held 17 (.held 18 (.held 19 (.held 20 (.held 21 (.op 22 (.op 23 (.held 24 (.held 25 (.held 26 (.held 27 (.held 29 (.op 28 (.op 30 (.op 31 (.op 32 (.held 33 (.held 34 .nil))))))))))))))))))))))))))))))))))) mixed (by kernel_rfl) ?_
  have HD419 := Lib.hid (Facts.below (V' := V413.drew) (Below.refl _ _).drew HF415.out)
  have HD419b := Lib.hid HD419.out.rebase
  generalize V413.drew = D418 at *
  refine mix4_take_g (v := .slice A3 2 c3) rfl (by kernel_rfl) rfl (fun _ _ _ h => h) trivial (Facts.bel HD419b.out) (fun Y _ _ => by (try simp only [Act.put]); go_simp) ?_
  refine mix4_take_g (v := .agg #[.int .i64 1, .string ⟨#[120]⟩, .int .i64 0, .slice none 0 0]) rfl (by kernel_rfl) rfl (fun _ _ _ h => h) trivial (Facts.bel HD419b.out) (fun Y _ hY => by
    obtain ⟨z0, z1, z2, z3, -⟩ := BoxT.cells ((show BoxT D418 _ _ _ _ from HD419.out.2.2.2.2.2.2.2.2.2.2.2.1).below (show Below _ _ _ from hY))
    simp only [qX, Tm.kind, Tm.name, Tm.sort, Tm.kids, List.length_nil] at z0 z1 z2 z3
    (try simp only [Act.put]); go_simp) ?_
  refine mix4_take_g (v := .agg #[.int .i64 2, .string ⟨#[97]⟩, .int .i64 0, .slice none 0 0]) rfl (by kernel_rfl) rfl (fun _ _ _ h => h) trivial (Facts.bel HD419b.out) (fun Y _ hY => by
    obtain ⟨z0, z1, z2, z3, -⟩ := BoxT.cells ((show BoxT D418 _ _ _ _ from HD419.out.2.2.2.2.2.2.2.2.1).below (show Below _ _ _ from hY))
    simp only [qA, Tm.kind, Tm.name, Tm.sort, Tm.kids, List.length_nil] at z0 z1 z2 z3
    (try simp only [Act.put]); go_simp) ?_
  refine mix4_take_g (v := .agg #[.int .i64 1, .string ⟨#[120]⟩, .int .i64 0, .slice none 0 0, .int .i64 2, .string ⟨#[97]⟩, .int .i64 0, .slice none 0 0]) rfl (by kernel_rfl) rfl (fun _ _ _ h => h) trivial (Facts.bel HD419b.out) (fun Y _ _ => by (try simp only [Act.put]); go_simp) ?_
  refine mix4_take_g (v := .agg #[.int .i64 1, .string ⟨#[121]⟩, .int .i64 0, .slice none 0 0]) rfl (by kernel_rfl) rfl (fun _ _ _ h => h) trivial (Facts.bel HD419b.out) (fun Y _ hY => by
    obtain ⟨z0, z1, z2, z3, -⟩ := BoxT.cells ((show BoxT D418 _ _ _ _ from HD419.out.2.2.2.2.2.2.2.2.2.2.1).below (show Below _ _ _ from hY))
    simp only [qY, Tm.kind, Tm.name, Tm.sort, Tm.kids, List.length_nil] at z0 z1 z2 z3
    (try simp only [Act.put]); go_simp) ?_
  refine mix4_take_g (v := .agg #[.int .i64 2, .string ⟨#[97]⟩, .int .i64 0, .slice none 0 0]) rfl (by kernel_rfl) rfl (fun _ _ _ h => h) trivial (Facts.bel HD419b.out) (fun Y _ hY => by
    obtain ⟨z0, z1, z2, z3, -⟩ := BoxT.cells ((show BoxT D418 _ _ _ _ from HD419.out.2.2.2.2.2.2.2.2.1).below (show Below _ _ _ from hY))
    simp only [qA, Tm.kind, Tm.name, Tm.sort, Tm.kids, List.length_nil] at z0 z1 z2 z3
    (try simp only [Act.put]); go_simp) ?_
  refine mix4_take_g (v := .agg #[.int .i64 1, .string ⟨#[121]⟩, .int .i64 0, .slice none 0 0, .int .i64 2, .string ⟨#[97]⟩, .int .i64 0, .slice none 0 0]) rfl (by kernel_rfl) rfl (fun _ _ _ h => h) trivial (Facts.bel HD419b.out) (fun Y _ _ => by (try simp only [Act.put]); go_simp) ?_
  refine mix4_op_g rfl (by kernel_rfl) (fun K hK => ?_)
  go_wp2_with fail
  obtain ⟨W420, hW421⟩ : ∃ V, V = D418.alloc (.cells (bCells [((qX, none, 0), (qA, none, 0)), ((qY, none, 0), (qA, none, 0))]).toArray 48) := ⟨_, rfl⟩
  have HF422 := Lib.hid (HD419b.out.bslice _ hW421 (by simp) (fun x hx => by simp at hx; rcases hx with rfl | rfl <;> exact ⟨nilRep _ _ _ _ _ (by decide), nilRep _ _ _ _ _ (by decide)⟩))
  simp only [bCells, bits, itCells, Tm.cells, List.cons_append, List.nil_append, List.append_nil, qX, qA, qY, Tm.kind, Tm.name, Tm.sort, Tm.kids, List.length_nil] at hW421
  rw [← hW421]
  refine ⟨⟨fun _ => trivial, Facts.bel HF422.out⟩, ?_⟩
  clear hW421
  clear HD419b
  refine mix4_op_g rfl (by kernel_rfl) (fun K hK => ?_)
  have C423 := rsameB3_any qS1 qS1 A3 (some ⟨D418.heap.size, 0, none⟩) c3 2 W420 sizeB_q1 sizeB_q1 (HF422.out.2.2.2.2.2.2.2.1) (HF422.out.1)
  rw [decide_eq_true (rfl : qS1 = qS1)] at C423
  simp only [qS1, Tm.kind, Tm.name, Tm.sort, Tm.kids, List.length_cons, List.length_nil, Nat.zero_add, Nat.reduceAdd] at C423
  have C423 := Lib.hid C423
  go_wp2_with fail
  refine C423.out.mono ?_; clear C423
  rintro e w424 ⟨rfl, hb425⟩
  have HF426 := Lib.hid (Facts.below hb425.below HF422.out)
  refine hK _ _ ⟨⟨fun _ => trivial, Facts.bel HF426.out⟩, ?_⟩
  clear hK K
  clear HF422
  clear hb425
  refine mix4_take_g (v := .bool true) rfl (by kernel_rfl) rfl (fun _ _ _ h => h) trivial (Facts.bel HF426.out) (fun Y _ _ => by (try simp only [Act.put]); go_simp) ?_
  refine mix4_take_g (v := .slice A4 1 c4) rfl (by kernel_rfl) rfl (fun _ _ _ h => h) trivial (Facts.bel HF426.out) (fun Y _ _ => by (try simp only [Act.put]); go_simp) ?_
  refine mix4_take_g (v := .agg #[.int .i64 1, .string ⟨#[121]⟩, .int .i64 0, .slice none 0 0]) rfl (by kernel_rfl) rfl (fun _ _ _ h => h) trivial (Facts.bel HF426.out) (fun Y _ hY => by
    obtain ⟨z0, z1, z2, z3, -⟩ := BoxT.cells ((show BoxT D418 _ _ _ _ from HD419.out.2.2.2.2.2.2.2.2.2.2.1).below (show Below _ _ _ from hY))
    simp only [qY, Tm.kind, Tm.name, Tm.sort, Tm.kids, List.length_nil] at z0 z1 z2 z3
    (try simp only [Act.put]); go_simp) ?_
  refine mix4_take_g (v := .agg #[.int .i64 1, .string ⟨#[120]⟩, .int .i64 0, .slice none 0 0]) rfl (by kernel_rfl) rfl (fun _ _ _ h => h) trivial (Facts.bel HF426.out) (fun Y _ hY => by
    obtain ⟨z0, z1, z2, z3, -⟩ := BoxT.cells ((show BoxT D418 _ _ _ _ from HD419.out.2.2.2.2.2.2.2.2.2.2.2.1).below (show Below _ _ _ from hY))
    simp only [qX, Tm.kind, Tm.name, Tm.sort, Tm.kids, List.length_nil] at z0 z1 z2 z3
    (try simp only [Act.put]); go_simp) ?_
  refine mix4_take_g (v := .agg #[.int .i64 1, .string ⟨#[121]⟩, .int .i64 0, .slice none 0 0, .int .i64 1, .string ⟨#[120]⟩, .int .i64 0, .slice none 0 0]) rfl (by kernel_rfl) rfl (fun _ _ _ h => h) trivial (Facts.bel HF426.out) (fun Y _ _ => by (try simp only [Act.put]); go_simp) ?_
  refine mix4_op_g rfl (by kernel_rfl) (fun K hK => ?_)
  go_wp2_with fail
  obtain ⟨W427, hW428⟩ : ∃ V, V = w424.alloc (.cells (bCells [((qY, none, 0), (qX, none, 0))]).toArray 48) := ⟨_, rfl⟩
  have HF429 := Lib.hid (HF426.out.bslice _ hW428 (by simp) (fun x hx => by simp at hx; subst hx; exact ⟨nilRep _ _ _ _ _ (by decide), nilRep _ _ _ _ _ (by decide)⟩))
  simp only [bCells, bits, itCells, Tm.cells, List.cons_append, List.nil_append, List.append_nil, qY, qX, Tm.kind, Tm.name, Tm.sort, Tm.kids, List.length_nil] at hW428
  rw [← hW428]
  refine ⟨⟨fun _ => trivial, Facts.bel HF429.out⟩, ?_⟩
  clear hW428
  clear HF426
  refine mix4_op_g rfl (by kernel_rfl) (fun K hK => ?_)
  have C430 := rsameB3_any qS2 qS2 A4 (some ⟨w424.heap.size, 0, none⟩) c4 1 W427 sizeB_q2 sizeB_q2 (HF429.out.2.2.2.2.2.2.2.1) (HF429.out.1)
  rw [decide_eq_true (rfl : qS2 = qS2)] at C430
  simp only [qS2, Tm.kind, Tm.name, Tm.sort, Tm.kids, List.length_cons, List.length_nil, Nat.zero_add, Nat.reduceAdd] at C430
  have C430 := Lib.hid C430
  go_wp2_with fail
  refine C430.out.mono ?_; clear C430
  rintro e w431 ⟨rfl, hb432⟩
  have HF433 := Lib.hid (Facts.below hb432.below HF429.out)
  refine hK _ _ ⟨⟨fun _ => trivial, Facts.bel HF433.out⟩, ?_⟩
  clear hK K
  clear HF429
  clear hb432
  refine mix4_take_g (v := .bool true) rfl (by kernel_rfl) rfl (fun _ _ _ h => h) trivial (Facts.bel HF433.out) (fun Y _ _ => by (try simp only [Act.put]); go_simp) ?_
  refine mix4_take_g (v := .bool true) rfl (by kernel_rfl) rfl (fun _ _ _ h => h) trivial (Facts.bel HF433.out) (fun Y _ _ => by (try simp only [Act.put]); go_simp) ?_
  refine mix4_take_g (v := .slice A5 1 c5) rfl (by kernel_rfl) rfl (fun _ _ _ h => h) trivial (Facts.bel HF433.out) (fun Y _ _ => by (try simp only [Act.put]); go_simp) ?_
  refine mix4_take_g (v := .agg #[.int .i64 1, .string ⟨#[120]⟩, .int .i64 0, .slice none 0 0]) rfl (by kernel_rfl) rfl (fun _ _ _ h => h) trivial (Facts.bel HF433.out) (fun Y _ hY => by
    obtain ⟨z0, z1, z2, z3, -⟩ := BoxT.cells ((show BoxT D418 _ _ _ _ from HD419.out.2.2.2.2.2.2.2.2.2.2.2.1).below (show Below _ _ _ from hY))
    simp only [qX, Tm.kind, Tm.name, Tm.sort, Tm.kids, List.length_nil] at z0 z1 z2 z3
    (try simp only [Act.put]); go_simp) ?_
  refine mix4_take_g (v := .agg #[.int .i64 1, .string ⟨#[121]⟩, .int .i64 2, .slice none 0 0]) rfl (by kernel_rfl) rfl (fun _ _ _ h => h) trivial (Facts.bel HF433.out) (fun Y _ hY => by
    obtain ⟨z0, z1, z2, z3, -⟩ := BoxT.cells ((show BoxT D418 _ _ _ _ from HD419.out.2.2.2.2.2.2.2.2.2.1).below (show Below _ _ _ from hY))
    simp only [qN, Tm.kind, Tm.name, Tm.sort, Tm.kids, List.length_nil] at z0 z1 z2 z3
    (try simp only [Act.put]); go_simp) ?_
  refine mix4_take_g (v := .agg #[.int .i64 1, .string ⟨#[120]⟩, .int .i64 0, .slice none 0 0, .int .i64 1, .string ⟨#[121]⟩, .int .i64 2, .slice none 0 0]) rfl (by kernel_rfl) rfl (fun _ _ _ h => h) trivial (Facts.bel HF433.out) (fun Y _ _ => by (try simp only [Act.put]); go_simp) ?_
  refine mix4_op_g rfl (by kernel_rfl) (fun K hK => ?_)
  go_wp2_with fail
  obtain ⟨W434, hW435⟩ : ∃ V, V = w431.alloc (.cells (bCells [((qX, none, 0), (qN, none, 0))]).toArray 48) := ⟨_, rfl⟩
  have HF436 := Lib.hid (HF433.out.bslice _ hW435 (by simp) (fun x hx => by simp at hx; subst hx; exact ⟨nilRep _ _ _ _ _ (by decide), nilRep _ _ _ _ _ (by decide)⟩))
  simp only [bCells, bits, itCells, Tm.cells, List.cons_append, List.nil_append, List.append_nil, qX, qN, Tm.kind, Tm.name, Tm.sort, Tm.kids, List.length_nil] at hW435
  rw [← hW435]
  refine ⟨⟨fun _ => trivial, Facts.bel HF436.out⟩, ?_⟩
  clear hW435
  clear HF433
  refine mix4_op_g rfl (by kernel_rfl) (fun K hK => ?_)
  have C437 := rsameB3_any qS3 qS3 A5 (some ⟨w431.heap.size, 0, none⟩) c5 1 W434 sizeB_q3 sizeB_q3 (HF436.out.2.2.2.2.2.2.2.1) (HF436.out.1)
  rw [decide_eq_true (rfl : qS3 = qS3)] at C437
  simp only [qS3, Tm.kind, Tm.name, Tm.sort, Tm.kids, List.length_cons, List.length_nil, Nat.zero_add, Nat.reduceAdd] at C437
  have C437 := Lib.hid C437
  go_wp2_with fail
  refine C437.out.mono ?_; clear C437
  rintro e w438 ⟨rfl, hb439⟩
  have HF440 := Lib.hid (Facts.below hb439.below HF436.out)
  refine hK _ _ ⟨⟨fun _ => trivial, Facts.bel HF440.out⟩, ?_⟩
  clear hK K
  clear HF436
  clear hb439
  refine mix4_take_g (v := .bool true) rfl (by kernel_rfl) rfl (fun _ _ _ h => h) trivial (Facts.bel HF440.out) (fun Y _ _ => by (try simp only [Act.put]); go_simp) ?_
  refine mix4_take_g (v := .bool true) rfl (by kernel_rfl) rfl (fun _ _ _ h => h) trivial (Facts.bel HF440.out) (fun Y _ _ => by (try simp only [Act.put]); go_simp) ?_
  refine mix4_take_g (v := .agg #[.int .i64 3, .string ⟨#[102]⟩, .int .i64 0, .slice A7 3 c7]) rfl (by kernel_rfl) rfl (fun _ _ _ h => h) trivial (Facts.bel HF440.out) (fun Y _ hY => by
    obtain ⟨z0, z1, z2, z3, -⟩ := BoxT.cells ((show BoxT D418 _ _ _ _ from HD419.out.2.1).below (show Below _ _ _ from hY))
    simp only [qFG, Tm.kind, Tm.name, Tm.sort, Tm.kids, List.length_cons, List.length_nil, Nat.zero_add, Nat.reduceAdd] at z0 z1 z2 z3
    (try simp only [Act.put]); go_simp) ?_
  refine mix4_take_g (v := .agg #[.int .i64 1, .string ⟨#[103, 48]⟩, .int .i64 2, .slice none 0 0]) rfl (by kernel_rfl) rfl (fun _ _ _ h => h) trivial (Facts.bel HF440.out) (fun Y _ hY => by
    obtain ⟨z0, z1, z2, z3, -⟩ := BoxT.cells ((show BoxT D418 _ _ _ _ from HD419.out.1).below (show Below _ _ _ from hY))
    simp only [qG0, Tm.kind, Tm.name, Tm.sort, Tm.kids, List.length_nil] at z0 z1 z2 z3
    (try simp only [Act.put]); go_simp) ?_
  refine mix4_take_g (v := .agg #[.int .i64 1, .string ⟨#[103, 48]⟩, .int .i64 2, .slice none 0 0]) rfl (by kernel_rfl) rfl (fun _ _ _ h => h) trivial (Facts.bel HF440.out) (fun Y _ hY => by
    obtain ⟨z0, z1, z2, z3, -⟩ := BoxT.cells ((show BoxT D418 _ _ _ _ from HD419.out.1).below (show Below _ _ _ from hY))
    simp only [qG0, Tm.kind, Tm.name, Tm.sort, Tm.kids, List.length_nil] at z0 z1 z2 z3
    (try simp only [Act.put]); go_simp) ?_
  refine mix4_op_g rfl (by kernel_rfl) (fun K hK => ?_)
  have C441 := var_any ⟨#[103, 49]⟩ 0 w438
  simp only [Tm.val, Tm.kind, Tm.name, Tm.sort, Tm.kids, List.length_cons, List.length_nil, Nat.zero_add, Nat.reduceAdd] at C441
  have C441 := Lib.hid C441
  go_wp2_with fail
  refine C441.out.mono ?_; clear C441
  rintro e w442 ⟨rfl, hb446⟩
  have HF447 := Lib.hid (Facts.below hb446.below HF440.out)
  refine hK _ _ ⟨⟨fun _ => trivial, Facts.bel HF447.out⟩, ?_⟩
  clear hK K
  clear HF440
  clear hb446
  refine mix4_op_g rfl (by kernel_rfl) (fun K hK => ?_)
  go_wp2_with fail
  obtain ⟨W448, hW449⟩ : ∃ V, V = w442.alloc (.cells (itCells [(qG0, none, 0), (qG1, none, 0), (qG0, none, 0)]).toArray 24) := ⟨_, rfl⟩
  have HF450 := Lib.hid (HF447.out.slice _ hW449 (by simp) (fun x hx => by simp at hx; rcases hx with rfl | rfl | rfl <;> exact nilRep _ _ _ _ _ (by decide)))
  simp only [itCells, Tm.cells, List.cons_append, List.nil_append, qG0, qG1, Tm.kind, Tm.name, Tm.sort, Tm.kids, List.length_nil] at hW449
  rw [← hW449]
  refine ⟨⟨fun _ => trivial, Facts.bel HF450.out⟩, ?_⟩
  clear hW449
  clear HF447
  refine mix4_op_g rfl (by kernel_rfl) (fun K hK => ?_)
  have C451 := app_any ⟨#[102]⟩ [qG0, qG1, qG0] (some ⟨w442.heap.size, 0, none⟩) 3 W448 (by decide) (by simp) (by simp) (HF450.out.1)
  simp only [Tm.val, Tm.kind, Tm.name, Tm.sort, Tm.kids, List.length_cons, List.length_nil, Nat.zero_add, Nat.reduceAdd] at C451
  have C451 := Lib.hid C451
  go_wp2_with fail
  refine C451.out.mono ?_; clear C451
  rintro e w452 ⟨A453, c454, rfl, hr455, hb456⟩
  have HF457 := Lib.hid ((Facts.below hb456 HF450.out).add (.term qFG A453 c454) hr455)
  refine hK _ _ ⟨⟨fun _ => trivial, Facts.bel HF457.out⟩, ?_⟩
  clear hK K
  clear HF450
  clear hr455 hb456
  refine mix4_op_g rfl (by kernel_rfl) (fun K hK => ?_)
  have C458 := rsame_any qFG qFG A7 A453 c7 c454 w452 (by decide) (by decide) (BoxT.below (HD419.out.2.1) (Facts.bel HF457.out)).2 (HF457.out.1)
  rw [Tm.same_iff.2 (rfl : qFG = qFG)] at C458
  simp only [Tm.val, qFG, Tm.kind, Tm.name, Tm.sort, Tm.kids, List.length_cons, List.length_nil, Nat.zero_add, Nat.reduceAdd] at C458
  have C458 := Lib.hid C458
  go_wp2_with fail
  refine C458.out.mono ?_; clear C458
  rintro e w459 ⟨rfl, hb460⟩
  have HF461 := Lib.hid (Facts.below hb460.below HF457.out)
  refine hK _ _ ⟨⟨fun _ => trivial, Facts.bel HF461.out⟩, ?_⟩
  clear hK K
  clear HF457
  clear hb460
  refine mix4_take_g (v := .bool true) rfl (by kernel_rfl) rfl (fun _ _ _ h => h) trivial (Facts.bel HF461.out) (fun Y _ _ => by (try simp only [Act.put]); go_simp) ?_
  refine mix4_take_g (v := .bool true) rfl (by kernel_rfl) rfl (fun _ _ _ h => h) trivial (Facts.bel HF461.out) (fun Y _ _ => by (try simp only [Act.put]); go_simp) ?_
  refine mix4_nil ?_
  have HF462 := Lib.hid ((show Facts D418 [.box (b416) qG0 none 0, .box bx qFG A7 c7, .box (b154 + 1) qQ none 0, .box (b154) qP none 0, .binds qS3 A5 c5, .binds qS2 A4 c4, .binds qS1 A3 c3, .box (b24 + 1) qB none 0, .box (b24) qA none 0, .box (b13 + 1 + 1) qN none 0, .box (b13 + 1) qY none 0, .box (b13) qX none 0] w459 from ⟨HF461.out.2.2.2.2.2.1, HF461.out.2.2.2.2.2.2.1, HF461.out.2.2.2.2.2.2.2.1, HF461.out.2.2.2.2.2.2.2.2.1, HF461.out.2.2.2.2.2.2.2.2.2.1, HF461.out.2.2.2.2.2.2.2.2.2.2.1, HF461.out.2.2.2.2.2.2.2.2.2.2.2.1, HF461.out.2.2.2.2.2.2.2.2.2.2.2.2.1, HF461.out.2.2.2.2.2.2.2.2.2.2.2.2.2.1, HF461.out.2.2.2.2.2.2.2.2.2.2.2.2.2.2.1, HF461.out.2.2.2.2.2.2.2.2.2.2.2.2.2.2.2.1, HF461.out.2.2.2.2.2.2.2.2.2.2.2.2.2.2.2.2.1, Facts.bel HF461.out⟩).unbase (Facts.bel HD419.out))
  clear HF461 HD419
  go_wp2_with fail
  go_ret
  exact ⟨rfl, Facts.bel HF462.out⟩
end Go.Proofs.YtmajbopjaejliaaGreatDoor
