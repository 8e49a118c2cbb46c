/- Uvrt2 (joined by shake.py). -/
import Derived.Test.YtpjmdilpldaapaaGreatDoorV9
import Derived.Test.YtpjmdilpldaapaaGreatDoorV20
import Derived.Deep.Cut
set_option maxRecDepth 100000
namespace Go.Proofs.YtpjmdilpldaapaaGreatDoor
open Go.RowKit Go.Sort
theorem qav {W : World} {B : Nat} {a b x y : Value} {T : TypeId} (h : W.heap[B]? = some (.cells #[a, b] T (0, 0))) : ((W.setCell ⟨B, 0, none⟩ x).setCell ⟨B, 1, none⟩ y).heap[B]? = some (.cells #[x, y] T (0, 0)) := by
 simp [World.setCell, Array.getElem?_modify, h]
theorem qap {W : World} {B k : Nat} {x y : Value} (h : k ≠ B) : ((W.setCell ⟨B, 0, none⟩ x).setCell ⟨B, 1, none⟩ y).heap[k]? = W.heap[k]? := by
 rw [Below.heap_setCell _ _ _ _ h, Below.heap_setCell _ _ _ _ h]
attribute [local irreducible] qaz
set_option linter.unusedSimpArgs false in
set_option linter.unusedVariables false in
set_option maxHeartbeats 8000000 in
theorem qiz (tb kb B : Nat) (hB : B ≤ tb ∧ B ≤ kb) (hne : tb ≠ kb) (a b : Tm) (A A' : Option Addr) (ca cb : Nat) (m : List Bd) (n1 n2 c : Nat) (w : World) (hka : a.kind = 1) (hkb : b.kind = 1) (hva : a.valid = 0) (hvb : b.valid = 0) (hc1 : n1 ≤ c) (hc2 : n2 ≤ c) (hcc : c + 1 ≤ 1000000)
  (hm1 : MapI w tb n1 m) (hm2 : MapI w kb n2 (swB m)) (hra : RepP w (fun k => k < B) a A ca) (hrb : RepP w (fun k => k < B) b A' cb) :
  Calls Tryz.prog 59 #[a.val A ca, b.val A' cb, .map (some tb), .map (some kb)] w (VrtD tb kb B (c + 1) (a.vrt b m) w) := by
 have mixed : Tryz.prog.follows .mixedOrders = true := by kernel_rfl
 have htw := hm1.lt;have hkw := hm2.lt;obtain ⟨hkids, hkey⟩ := check_keyable (check_valid hva) hka;obtain ⟨hkids', hkey'⟩ := check_keyable (check_valid hvb) hkb;obtain ⟨V, hV⟩ : ∃ V, V = (w.alloc (boxT a A ca)).alloc (boxT b A' cb) := ⟨_, rfl⟩;have h2 : Two w a b A A' ca cb V := by rw [hV]; exact Two.new w a b A A' ca cb
 have hM : VAt tb kb B n1 n2 m w (boxT a A ca) (boxT b A' cb) V := ⟨hm1.keep (h2.lay.below.block _ htw), hm2.keep (h2.lay.below.block _ hkw), h2.one, h2.two, h2.lay.below.mono (by omega), fun k hk _ _ => h2.lay.below.block k hk⟩;have IV1 := qcc a A ca;have IV2 := qcc b A' cb;rw [show (a.kind == 1) = true by rw [beq_iff_eq]; exact hka] at IV1;rw [show (b.kind == 1) = true by rw [beq_iff_eq]; exact hkb] at IV2;have KA := qf0 a A ca;have KB := qf0 b A' cb;obtain ⟨r, hr⟩ : ∃ r, r = a.vrt b m := ⟨_, rfl⟩;rw [← hr];rw [qlt, if_pos ⟨hka, hkb⟩] at hr;have HR := Lib.hid hr;have HKA : Hid (a.kind = 1 ∧ a.kids = [] ∧ qbe a) := ⟨hka, hkids, hkey⟩;have HKB : Hid (b.kind = 1 ∧ b.kids = [] ∧ qbe b) := ⟨hkb, hkids', hkey'⟩;obtain ⟨a0, a1, a2, a3, -⟩ := qah h2.one;obtain ⟨b0, b1, b2, b3, -⟩ := qah h2.two;have HM := Lib.hid hM;simp only [boxT] at hV
 have HV := Lib.hid hV;clear hV h2 hM hm1 hm2 hra hrb hva hvb hr hka hkb hkids hkey hkids' hkey';simp only [Tm.val] at IV1 IV2 KA KB ⊢;have IV1 := Lib.hid IV1;have IV2 := Lib.hid IV2;have KA := Lib.hid KA;have KB := Lib.hid KB;go_enter Tryz.func59, Tryz.ntmps59
 go_wp2_with fail
 rw [← HV.out];go_wp2_with fail
 refine (IV1.out V).mono ?_; clear IV1 a0 a1 a2 a3 b0 b1 b2 b3;rintro e w1 ⟨rfl, hl1⟩;have HM1 := Lib.hid (HM.out.go (by omega) hl1.below); clear HM hl1;obtain ⟨a0, a1, a2, a3, -⟩ := qar a (HM1.out.b1);obtain ⟨b0, b1, b2, b3, -⟩ := qar b (HM1.out.b2);go_wp2_with fail
 refine (IV2.out w1).mono ?_; clear IV2 a0 a1 a2 a3 b0 b1 b2 b3;rintro e w2 ⟨rfl, hl2⟩;have HM2 := Lib.hid (HM1.out.go (by omega) hl2.below); clear HM1 hl2;have HMD := Lib.hid (HM2.out.go (Z' := w2.drew) (by omega) (Below.refl _ _).drew);have hlt2 : w.heap.size + 2 ≤ w2.drew.heap.size := HMD.out.lt;go_wp2_with fail
 refine qa2 (fun a0 a' w' => ∃ X Y, a' = ((((((a0.put (some 22) (.agg #[.int .i64 a.kind, .string a.name, .int .i64 a.sort, .slice A a.kids.length ca])).put (some 23) (keyV a)).put (some 24) (.agg #[.int .i64 b.kind, .string b.name, .int .i64 b.sort, .slice A' b.kids.length cb])).put (some 25) (keyV b)).put (some 9) (.pointer (some ⟨X, 0, none⟩))).put (some 10) (.pointer (some ⟨Y, 0, none⟩))) ∧ Hid (VAt tb kb B n1 n2 m w (boxT a A ca) (boxT b A' cb) w') ∧ w'.heap[X]? = some (.cells #[.string a.name, .int .i64 a.sort] 66 (0, 0)) ∧ w'.heap[Y]? = some (.cells #[.string b.name, .int .i64 b.sort] 66 (0, 0)) ∧ X ≠ Y ∧ w.heap.size + 2 ≤ X ∧ w.heap.size + 2 ≤ Y) ?_ ?_
 ·skip
  refine qai (fun _ => True) (fun Y => Below w2.drew.heap.size w2.drew Y) [] (.held 0 (.held 2 (.three 1 4 5 (.three 3 4 5 (.two 4 5 (.op 5 (.op 6 (.op 7 .nil))) (.op 4 (.op 6 (.op 7 .nil)))) (.two 3 5 (.op 5 (.op 6 (.op 7 .nil))) (.op 3 (.op 6 (.op 7 .nil)))) (.two 3 4 (.op 4 (.op 6 (.op 7 .nil))) (.op 3 (.op 6 (.op 7 .nil))))) (.two 1 5 (.two 3 5 (.op 5 (.op 6 (.op 7 .nil))) (.op 3 (.op 6 (.op 7 .nil)))) (.op 1 (.op 3 (.op 6 (.op 7 .nil))))) (.two 1 4 (.two 3 4 (.op 4 (.op 6 (.op 7 .nil))) (.op 3 (.op 6 (.op 7 .nil)))) (.op 1 (.op 3 (.op 6 (.op 7 .nil)))))))) mixed (by kernel_rfl) ?_;clear HM2;generalize w2.drew = D at *;obtain ⟨a0, a1, a2, a3, -⟩ := qar a (HMD.out.b1);obtain ⟨b0, b1, b2, b3, -⟩ := qar b (HMD.out.b2);have hbD : Below D.heap.size D D := Below.refl _ _
  refine qaa (v := .agg #[.int .i64 a.kind, .string a.name, .int .i64 a.sort, .slice A a.kids.length ca]) rfl rfl rfl (fun _ _ _ h => nomatch h.1) trivial hbD (fun Y _ hY => by
   have z0 := (hY.cell (p := ⟨w.heap.size, 0, none⟩) (by show w.heap.size < _; omega)).trans a0;have z1 := (hY.cell (p := ⟨w.heap.size, 1, none⟩) (by show w.heap.size < _; omega)).trans a1;have z2 := (hY.cell (p := ⟨w.heap.size, 2, none⟩) (by show w.heap.size < _; omega)).trans a2;have z3 := (hY.cell (p := ⟨w.heap.size, 3, none⟩) (by show w.heap.size < _; omega)).trans a3
   (try simp only [Act.put]); go_simp) ?_
  refine qaa (v := .agg #[.int .i64 b.kind, .string b.name, .int .i64 b.sort, .slice A' b.kids.length cb]) rfl rfl rfl (fun _ _ _ h => nomatch h.1) trivial hbD (fun Y _ hY => by
   have z0 := (hY.cell (p := ⟨w.heap.size + 1, 0, none⟩) (by show w.heap.size + 1 < _; omega)).trans b0;have z1 := (hY.cell (p := ⟨w.heap.size + 1, 1, none⟩) (by show w.heap.size + 1 < _; omega)).trans b1;have z2 := (hY.cell (p := ⟨w.heap.size + 1, 2, none⟩) (by show w.heap.size + 1 < _; omega)).trans b2;have z3 := (hY.cell (p := ⟨w.heap.size + 1, 3, none⟩) (by show w.heap.size + 1 < _; omega)).trans b3
   (try simp only [Act.put]); go_simp) ?_
  simp only [Act.put, List.setIfInBounds_toArray, List.set_cons_succ, List.set_cons_zero, List.getElem_toArray, List.getElem_cons_succ, List.getElem_cons_zero];refine qig ?_ ?_ ?_
  ·skip
   refine qac rfl rfl (fun K hK => ?_);go_wp2_with fail
   refine (KA.out D).mono ?_;rintro e W1 ⟨rfl, hl2⟩;have hb3 := qad hbD hl2.below (Below.size hbD);have hb3s := Below.size hb3;have hb3t := Below.size hl2.below;refine hK _ _ ⟨⟨fun _ => trivial, hb3⟩, ?_⟩;clear hK K;refine qig ?_ ?_ ?_
   ·skip
    refine qac rfl rfl (fun K hK => ?_);go_wp2_with fail
    refine (KB.out W1).mono ?_;rintro e W4 ⟨rfl, hl5⟩;have hb6 := qad hb3 hl5.below (Below.size hb3);have hb6s := Below.size hb6;have hb6t := Below.size hl5.below;refine hK _ _ ⟨⟨fun _ => trivial, hb6⟩, ?_⟩;clear hK K;refine qa9 ?_ ?_
    ·skip
     refine qac rfl rfl (fun K hK => ?_);go_wp2_with fail
     obtain ⟨W7, hW8⟩ : ∃ V, V = W4.alloc (.cells #[.string ⟨#[]⟩, .int .i64 0] 66) := ⟨_, rfl⟩;have hk11 : Below W4.heap.size W4 W7 := by rw [hW8]; exact qaf (Nat.le_refl _) _
     have hx10 : W7.heap[W4.heap.size]? = some (.cells #[.string ⟨#[]⟩, .int .i64 0] 66 (0, 0)) := by rw [hW8]; exact heap_alloc_new _ _
     have hx10l : W4.heap.size < W7.heap.size := by rw [hW8]; simp
     rw [← hW8];clear hW8;have hb9 := qad hb6 hk11 (Below.size hb6);have hb9s := Below.size hb9;have hb9u := Below.size hb6;refine ⟨⟨fun _ => trivial, hb9⟩, ?_⟩;refine qac rfl rfl (fun K hK => ?_);go_wp2_with fail
     obtain ⟨W12, hW13⟩ : ∃ V, V = W7.alloc (.cells #[.string ⟨#[]⟩, .int .i64 0] 66) := ⟨_, rfl⟩;have hk16 : Below W7.heap.size W7 W12 := by rw [hW13]; exact qaf (Nat.le_refl _) _
     have hx15 : W12.heap[W7.heap.size]? = some (.cells #[.string ⟨#[]⟩, .int .i64 0] 66 (0, 0)) := by rw [hW13]; exact heap_alloc_new _ _
     have hx15l : W7.heap.size < W12.heap.size := by rw [hW13]; simp
     rw [← hW13];clear hW13;have hb14 := qad hb9 hk16 (Below.size hb9);have hb14s := Below.size hb14;have hb14u := Below.size hb9;have hx17 := (hk16.block W4.heap.size (by omega)).trans hx10;refine ⟨⟨fun _ => trivial, hb14⟩, ?_⟩;refine qac rfl rfl (fun K hK => ?_);obtain ⟨q0, q1, qf⟩ := qaq hx17
     try simp only [keyV]
     go_wp2_with fail
     obtain ⟨W21, hW22⟩ : ∃ V, V = (W12.setCell ⟨W4.heap.size, 0, none⟩ (.string a.name)).setCell ⟨W4.heap.size, 1, none⟩ (.int .i64 a.sort) := ⟨_, rfl⟩;have hb18 : Below D.heap.size D W21 := by rw [hW22]; exact ((Below.setCell hb14 (by show D.heap.size ≤ W4.heap.size; omega) _).setCell (by show D.heap.size ≤ W4.heap.size; omega) _)
     have hx19 : W21.heap[W4.heap.size]? = some (.cells #[.string a.name, .int .i64 a.sort] 66 (0, 0)) := by rw [hW22]; exact qav hx17
     have hx20 : W21.heap[W7.heap.size]? = _ := (show W21.heap[W7.heap.size]? = W12.heap[W7.heap.size]? by rw [hW22]; exact qap (by omega)).trans hx15;rw [← hW22];clear hW22 q0 q1 qf;refine ⟨⟨fun _ => trivial, hb18⟩, ?_⟩;refine qac rfl rfl (fun K hK => ?_);obtain ⟨q0, q1, qf⟩ := qaq hx20
     try simp only [keyV]
     go_wp2_with fail
     obtain ⟨W26, hW27⟩ : ∃ V, V = (W21.setCell ⟨W7.heap.size, 0, none⟩ (.string b.name)).setCell ⟨W7.heap.size, 1, none⟩ (.int .i64 b.sort) := ⟨_, rfl⟩;have hb23 : Below D.heap.size D W26 := by rw [hW27]; exact ((Below.setCell hb18 (by show D.heap.size ≤ W7.heap.size; omega) _).setCell (by show D.heap.size ≤ W7.heap.size; omega) _)
     have hx24 : W26.heap[W7.heap.size]? = some (.cells #[.string b.name, .int .i64 b.sort] 66 (0, 0)) := by rw [hW27]; exact qav hx20
     have hx25 : W26.heap[W4.heap.size]? = _ := (show W26.heap[W4.heap.size]? = W21.heap[W4.heap.size]? by rw [hW27]; exact qap (by omega)).trans hx19;rw [← hW27];clear hW27 q0 q1 qf;refine ⟨⟨fun _ => trivial, hb23⟩, ?_⟩
     try simp only [Act.put, List.setIfInBounds_toArray, List.set_cons_succ, List.set_cons_zero, List.getElem_toArray, List.getElem_cons_succ, List.getElem_cons_zero]
     refine qaj ?_;exact ⟨rfl, W4.heap.size, W7.heap.size, by kernel_rfl, HMD.out.go (by omega) hb23, hx25, hx24, by omega, by omega, by omega⟩
    ·skip
     refine qac rfl rfl (fun K hK => ?_);go_wp2_with fail
     obtain ⟨W28, hW29⟩ : ∃ V, V = W4.alloc (.cells #[.string ⟨#[]⟩, .int .i64 0] 66) := ⟨_, rfl⟩;have hk32 : Below W4.heap.size W4 W28 := by rw [hW29]; exact qaf (Nat.le_refl _) _
     have hx31 : W28.heap[W4.heap.size]? = some (.cells #[.string ⟨#[]⟩, .int .i64 0] 66 (0, 0)) := by rw [hW29]; exact heap_alloc_new _ _
     have hx31l : W4.heap.size < W28.heap.size := by rw [hW29]; simp
     rw [← hW29];clear hW29;have hb30 := qad hb6 hk32 (Below.size hb6);have hb30s := Below.size hb30;have hb30u := Below.size hb6;refine ⟨⟨fun _ => trivial, hb30⟩, ?_⟩;refine qac rfl rfl (fun K hK => ?_);go_wp2_with fail
     obtain ⟨W33, hW34⟩ : ∃ V, V = W28.alloc (.cells #[.string ⟨#[]⟩, .int .i64 0] 66) := ⟨_, rfl⟩;have hk37 : Below W28.heap.size W28 W33 := by rw [hW34]; exact qaf (Nat.le_refl _) _
     have hx36 : W33.heap[W28.heap.size]? = some (.cells #[.string ⟨#[]⟩, .int .i64 0] 66 (0, 0)) := by rw [hW34]; exact heap_alloc_new _ _
     have hx36l : W28.heap.size < W33.heap.size := by rw [hW34]; simp
     rw [← hW34];clear hW34;have hb35 := qad hb30 hk37 (Below.size hb30);have hb35s := Below.size hb35;have hb35u := Below.size hb30;have hx38 := (hk37.block W4.heap.size (by omega)).trans hx31;refine ⟨⟨fun _ => trivial, hb35⟩, ?_⟩;refine qac rfl rfl (fun K hK => ?_);obtain ⟨q0, q1, qf⟩ := qaq hx36
     try simp only [keyV]
     go_wp2_with fail
     obtain ⟨W42, hW43⟩ : ∃ V, V = (W33.setCell ⟨W28.heap.size, 0, none⟩ (.string a.name)).setCell ⟨W28.heap.size, 1, none⟩ (.int .i64 a.sort) := ⟨_, rfl⟩;have hb39 : Below D.heap.size D W42 := by rw [hW43]; exact ((Below.setCell hb35 (by show D.heap.size ≤ W28.heap.size; omega) _).setCell (by show D.heap.size ≤ W28.heap.size; omega) _)
     have hx40 : W42.heap[W28.heap.size]? = some (.cells #[.string a.name, .int .i64 a.sort] 66 (0, 0)) := by rw [hW43]; exact qav hx36
     have hx41 : W42.heap[W4.heap.size]? = _ := (show W42.heap[W4.heap.size]? = W33.heap[W4.heap.size]? by rw [hW43]; exact qap (by omega)).trans hx38;rw [← hW43];clear hW43 q0 q1 qf;refine ⟨⟨fun _ => trivial, hb39⟩, ?_⟩;refine qac rfl rfl (fun K hK => ?_);obtain ⟨q0, q1, qf⟩ := qaq hx41
     try simp only [keyV]
     go_wp2_with fail
     obtain ⟨W47, hW48⟩ : ∃ V, V = (W42.setCell ⟨W4.heap.size, 0, none⟩ (.string b.name)).setCell ⟨W4.heap.size, 1, none⟩ (.int .i64 b.sort) := ⟨_, rfl⟩;have hb44 : Below D.heap.size D W47 := by rw [hW48]; exact ((Below.setCell hb39 (by show D.heap.size ≤ W4.heap.size; omega) _).setCell (by show D.heap.size ≤ W4.heap.size; omega) _)
     have hx45 : W47.heap[W4.heap.size]? = some (.cells #[.string b.name, .int .i64 b.sort] 66 (0, 0)) := by rw [hW48]; exact qav hx41
     have hx46 : W47.heap[W28.heap.size]? = _ := (show W47.heap[W28.heap.size]? = W42.heap[W28.heap.size]? by rw [hW48]; exact qap (by omega)).trans hx40;rw [← hW48];clear hW48 q0 q1 qf;refine ⟨⟨fun _ => trivial, hb44⟩, ?_⟩
     try simp only [Act.put, List.setIfInBounds_toArray, List.set_cons_succ, List.set_cons_zero, List.getElem_toArray, List.getElem_cons_succ, List.getElem_cons_zero]
     refine qaj ?_;exact ⟨rfl, W28.heap.size, W4.heap.size, by kernel_rfl, HMD.out.go (by omega) hb44, hx46, hx45, by omega, by omega, by omega⟩
   ·skip
    refine qac rfl rfl (fun K hK => ?_);go_wp2_with fail
    obtain ⟨W49, hW50⟩ : ∃ V, V = W1.alloc (.cells #[.string ⟨#[]⟩, .int .i64 0] 66) := ⟨_, rfl⟩;have hk53 : Below W1.heap.size W1 W49 := by rw [hW50]; exact qaf (Nat.le_refl _) _
    have hx52 : W49.heap[W1.heap.size]? = some (.cells #[.string ⟨#[]⟩, .int .i64 0] 66 (0, 0)) := by rw [hW50]; exact heap_alloc_new _ _
    have hx52l : W1.heap.size < W49.heap.size := by rw [hW50]; simp
    rw [← hW50];clear hW50;have hb51 := qad hb3 hk53 (Below.size hb3);have hb51s := Below.size hb51;have hb51u := Below.size hb3;refine ⟨⟨fun _ => trivial, hb51⟩, ?_⟩;refine qa9 ?_ ?_
    ·skip
     refine qac rfl rfl (fun K hK => ?_);go_wp2_with fail
     refine (KB.out W49).mono ?_;rintro e W54 ⟨rfl, hl55⟩;have hb56 := qad hb51 hl55.below (Below.size hb51);have hb56s := Below.size hb56;have hx57 := (hl55.below.block W1.heap.size (by omega)).trans hx52;have hb56t := Below.size hl55.below;refine hK _ _ ⟨⟨fun _ => trivial, hb56⟩, ?_⟩;clear hK K;refine qac rfl rfl (fun K hK => ?_);go_wp2_with fail
     obtain ⟨W58, hW59⟩ : ∃ V, V = W54.alloc (.cells #[.string ⟨#[]⟩, .int .i64 0] 66) := ⟨_, rfl⟩;have hk62 : Below W54.heap.size W54 W58 := by rw [hW59]; exact qaf (Nat.le_refl _) _
     have hx61 : W58.heap[W54.heap.size]? = some (.cells #[.string ⟨#[]⟩, .int .i64 0] 66 (0, 0)) := by rw [hW59]; exact heap_alloc_new _ _
     have hx61l : W54.heap.size < W58.heap.size := by rw [hW59]; simp
     rw [← hW59];clear hW59;have hb60 := qad hb56 hk62 (Below.size hb56);have hb60s := Below.size hb60;have hb60u := Below.size hb56;have hx63 := (hk62.block W1.heap.size (by omega)).trans hx57;refine ⟨⟨fun _ => trivial, hb60⟩, ?_⟩;refine qac rfl rfl (fun K hK => ?_);obtain ⟨q0, q1, qf⟩ := qaq hx63
     try simp only [keyV]
     go_wp2_with fail
     obtain ⟨W67, hW68⟩ : ∃ V, V = (W58.setCell ⟨W1.heap.size, 0, none⟩ (.string a.name)).setCell ⟨W1.heap.size, 1, none⟩ (.int .i64 a.sort) := ⟨_, rfl⟩;have hb64 : Below D.heap.size D W67 := by rw [hW68]; exact ((Below.setCell hb60 (by show D.heap.size ≤ W1.heap.size; omega) _).setCell (by show D.heap.size ≤ W1.heap.size; omega) _)
     have hx65 : W67.heap[W1.heap.size]? = some (.cells #[.string a.name, .int .i64 a.sort] 66 (0, 0)) := by rw [hW68]; exact qav hx63
     have hx66 : W67.heap[W54.heap.size]? = _ := (show W67.heap[W54.heap.size]? = W58.heap[W54.heap.size]? by rw [hW68]; exact qap (by omega)).trans hx61;rw [← hW68];clear hW68 q0 q1 qf;refine ⟨⟨fun _ => trivial, hb64⟩, ?_⟩;refine qac rfl rfl (fun K hK => ?_);obtain ⟨q0, q1, qf⟩ := qaq hx66
     try simp only [keyV]
     go_wp2_with fail
     obtain ⟨W72, hW73⟩ : ∃ V, V = (W67.setCell ⟨W54.heap.size, 0, none⟩ (.string b.name)).setCell ⟨W54.heap.size, 1, none⟩ (.int .i64 b.sort) := ⟨_, rfl⟩;have hb69 : Below D.heap.size D W72 := by rw [hW73]; exact ((Below.setCell hb64 (by show D.heap.size ≤ W54.heap.size; omega) _).setCell (by show D.heap.size ≤ W54.heap.size; omega) _)
     have hx70 : W72.heap[W54.heap.size]? = some (.cells #[.string b.name, .int .i64 b.sort] 66 (0, 0)) := by rw [hW73]; exact qav hx66
     have hx71 : W72.heap[W1.heap.size]? = _ := (show W72.heap[W1.heap.size]? = W67.heap[W1.heap.size]? by rw [hW73]; exact qap (by omega)).trans hx65;rw [← hW73];clear hW73 q0 q1 qf;refine ⟨⟨fun _ => trivial, hb69⟩, ?_⟩
     try simp only [Act.put, List.setIfInBounds_toArray, List.set_cons_succ, List.set_cons_zero, List.getElem_toArray, List.getElem_cons_succ, List.getElem_cons_zero]
     refine qaj ?_;exact ⟨rfl, W1.heap.size, W54.heap.size, by kernel_rfl, HMD.out.go (by omega) hb69, hx71, hx70, by omega, by omega, by omega⟩
    ·skip
     refine qac rfl rfl (fun K hK => ?_);go_wp2_with fail
     obtain ⟨W74, hW75⟩ : ∃ V, V = W49.alloc (.cells #[.string ⟨#[]⟩, .int .i64 0] 66) := ⟨_, rfl⟩;have hk78 : Below W49.heap.size W49 W74 := by rw [hW75]; exact qaf (Nat.le_refl _) _
     have hx77 : W74.heap[W49.heap.size]? = some (.cells #[.string ⟨#[]⟩, .int .i64 0] 66 (0, 0)) := by rw [hW75]; exact heap_alloc_new _ _
     have hx77l : W49.heap.size < W74.heap.size := by rw [hW75]; simp
     rw [← hW75];clear hW75;have hb76 := qad hb51 hk78 (Below.size hb51);have hb76s := Below.size hb76;have hb76u := Below.size hb51;have hx79 := (hk78.block W1.heap.size (by omega)).trans hx52;refine ⟨⟨fun _ => trivial, hb76⟩, ?_⟩;refine qac rfl rfl (fun K hK => ?_);go_wp2_with fail
     refine (KB.out W74).mono ?_;rintro e W80 ⟨rfl, hl81⟩;have hb82 := qad hb76 hl81.below (Below.size hb76);have hb82s := Below.size hb82;have hx83 := (hl81.below.block W1.heap.size (by omega)).trans hx79;have hx84 := (hl81.below.block W49.heap.size (by omega)).trans hx77;have hb82t := Below.size hl81.below;refine hK _ _ ⟨⟨fun _ => trivial, hb82⟩, ?_⟩;clear hK K;refine qac rfl rfl (fun K hK => ?_);obtain ⟨q0, q1, qf⟩ := qaq hx83
     try simp only [keyV]
     go_wp2_with fail
     obtain ⟨W88, hW89⟩ : ∃ V, V = (W80.setCell ⟨W1.heap.size, 0, none⟩ (.string a.name)).setCell ⟨W1.heap.size, 1, none⟩ (.int .i64 a.sort) := ⟨_, rfl⟩;have hb85 : Below D.heap.size D W88 := by rw [hW89]; exact ((Below.setCell hb82 (by show D.heap.size ≤ W1.heap.size; omega) _).setCell (by show D.heap.size ≤ W1.heap.size; omega) _)
     have hx86 : W88.heap[W1.heap.size]? = some (.cells #[.string a.name, .int .i64 a.sort] 66 (0, 0)) := by rw [hW89]; exact qav hx83
     have hx87 : W88.heap[W49.heap.size]? = _ := (show W88.heap[W49.heap.size]? = W80.heap[W49.heap.size]? by rw [hW89]; exact qap (by omega)).trans hx84;rw [← hW89];clear hW89 q0 q1 qf;refine ⟨⟨fun _ => trivial, hb85⟩, ?_⟩;refine qac rfl rfl (fun K hK => ?_);obtain ⟨q0, q1, qf⟩ := qaq hx87
     try simp only [keyV]
     go_wp2_with fail
     obtain ⟨W93, hW94⟩ : ∃ V, V = (W88.setCell ⟨W49.heap.size, 0, none⟩ (.string b.name)).setCell ⟨W49.heap.size, 1, none⟩ (.int .i64 b.sort) := ⟨_, rfl⟩;have hb90 : Below D.heap.size D W93 := by rw [hW94]; exact ((Below.setCell hb85 (by show D.heap.size ≤ W49.heap.size; omega) _).setCell (by show D.heap.size ≤ W49.heap.size; omega) _)
     have hx91 : W93.heap[W49.heap.size]? = some (.cells #[.string b.name, .int .i64 b.sort] 66 (0, 0)) := by rw [hW94]; exact qav hx87
     have hx92 : W93.heap[W1.heap.size]? = _ := (show W93.heap[W1.heap.size]? = W88.heap[W1.heap.size]? by rw [hW94]; exact qap (by omega)).trans hx86;rw [← hW94];clear hW94 q0 q1 qf;refine ⟨⟨fun _ => trivial, hb90⟩, ?_⟩
     try simp only [Act.put, List.setIfInBounds_toArray, List.set_cons_succ, List.set_cons_zero, List.getElem_toArray, List.getElem_cons_succ, List.getElem_cons_zero]
     refine qaj ?_;exact ⟨rfl, W1.heap.size, W49.heap.size, by kernel_rfl, HMD.out.go (by omega) hb90, hx92, hx91, by omega, by omega, by omega⟩
   ·skip
    refine qac rfl rfl (fun K hK => ?_);go_wp2_with fail
    obtain ⟨W95, hW96⟩ : ∃ V, V = W1.alloc (.cells #[.string ⟨#[]⟩, .int .i64 0] 66) := ⟨_, rfl⟩;have hk99 : Below W1.heap.size W1 W95 := by rw [hW96]; exact qaf (Nat.le_refl _) _
    have hx98 : W95.heap[W1.heap.size]? = some (.cells #[.string ⟨#[]⟩, .int .i64 0] 66 (0, 0)) := by rw [hW96]; exact heap_alloc_new _ _
    have hx98l : W1.heap.size < W95.heap.size := by rw [hW96]; simp
    rw [← hW96];clear hW96;have hb97 := qad hb3 hk99 (Below.size hb3);have hb97s := Below.size hb97;have hb97u := Below.size hb3;refine ⟨⟨fun _ => trivial, hb97⟩, ?_⟩;refine qa9 ?_ ?_
    ·skip
     refine qac rfl rfl (fun K hK => ?_);go_wp2_with fail
     refine (KB.out W95).mono ?_;rintro e W100 ⟨rfl, hl101⟩;have hb102 := qad hb97 hl101.below (Below.size hb97);have hb102s := Below.size hb102;have hx103 := (hl101.below.block W1.heap.size (by omega)).trans hx98;have hb102t := Below.size hl101.below;refine hK _ _ ⟨⟨fun _ => trivial, hb102⟩, ?_⟩;clear hK K;refine qac rfl rfl (fun K hK => ?_);go_wp2_with fail
     obtain ⟨W104, hW105⟩ : ∃ V, V = W100.alloc (.cells #[.string ⟨#[]⟩, .int .i64 0] 66) := ⟨_, rfl⟩;have hk108 : Below W100.heap.size W100 W104 := by rw [hW105]; exact qaf (Nat.le_refl _) _
     have hx107 : W104.heap[W100.heap.size]? = some (.cells #[.string ⟨#[]⟩, .int .i64 0] 66 (0, 0)) := by rw [hW105]; exact heap_alloc_new _ _
     have hx107l : W100.heap.size < W104.heap.size := by rw [hW105]; simp
     rw [← hW105];clear hW105;have hb106 := qad hb102 hk108 (Below.size hb102);have hb106s := Below.size hb106;have hb106u := Below.size hb102;have hx109 := (hk108.block W1.heap.size (by omega)).trans hx103;refine ⟨⟨fun _ => trivial, hb106⟩, ?_⟩;refine qac rfl rfl (fun K hK => ?_);obtain ⟨q0, q1, qf⟩ := qaq hx107
     try simp only [keyV]
     go_wp2_with fail
     obtain ⟨W113, hW114⟩ : ∃ V, V = (W104.setCell ⟨W100.heap.size, 0, none⟩ (.string a.name)).setCell ⟨W100.heap.size, 1, none⟩ (.int .i64 a.sort) := ⟨_, rfl⟩;have hb110 : Below D.heap.size D W113 := by rw [hW114]; exact ((Below.setCell hb106 (by show D.heap.size ≤ W100.heap.size; omega) _).setCell (by show D.heap.size ≤ W100.heap.size; omega) _)
     have hx111 : W113.heap[W100.heap.size]? = some (.cells #[.string a.name, .int .i64 a.sort] 66 (0, 0)) := by rw [hW114]; exact qav hx107
     have hx112 : W113.heap[W1.heap.size]? = _ := (show W113.heap[W1.heap.size]? = W104.heap[W1.heap.size]? by rw [hW114]; exact qap (by omega)).trans hx109;rw [← hW114];clear hW114 q0 q1 qf;refine ⟨⟨fun _ => trivial, hb110⟩, ?_⟩;refine qac rfl rfl (fun K hK => ?_);obtain ⟨q0, q1, qf⟩ := qaq hx112
     try simp only [keyV]
     go_wp2_with fail
     obtain ⟨W118, hW119⟩ : ∃ V, V = (W113.setCell ⟨W1.heap.size, 0, none⟩ (.string b.name)).setCell ⟨W1.heap.size, 1, none⟩ (.int .i64 b.sort) := ⟨_, rfl⟩;have hb115 : Below D.heap.size D W118 := by rw [hW119]; exact ((Below.setCell hb110 (by show D.heap.size ≤ W1.heap.size; omega) _).setCell (by show D.heap.size ≤ W1.heap.size; omega) _)
     have hx116 : W118.heap[W1.heap.size]? = some (.cells #[.string b.name, .int .i64 b.sort] 66 (0, 0)) := by rw [hW119]; exact qav hx112
     have hx117 : W118.heap[W100.heap.size]? = _ := (show W118.heap[W100.heap.size]? = W113.heap[W100.heap.size]? by rw [hW119]; exact qap (by omega)).trans hx111;rw [← hW119];clear hW119 q0 q1 qf;refine ⟨⟨fun _ => trivial, hb115⟩, ?_⟩
     try simp only [Act.put, List.setIfInBounds_toArray, List.set_cons_succ, List.set_cons_zero, List.getElem_toArray, List.getElem_cons_succ, List.getElem_cons_zero]
     refine qaj ?_;exact ⟨rfl, W100.heap.size, W1.heap.size, by kernel_rfl, HMD.out.go (by omega) hb115, hx117, hx116, by omega, by omega, by omega⟩
    ·skip
     refine qac rfl rfl (fun K hK => ?_);go_wp2_with fail
     obtain ⟨W120, hW121⟩ : ∃ V, V = W95.alloc (.cells #[.string ⟨#[]⟩, .int .i64 0] 66) := ⟨_, rfl⟩;have hk124 : Below W95.heap.size W95 W120 := by rw [hW121]; exact qaf (Nat.le_refl _) _
     have hx123 : W120.heap[W95.heap.size]? = some (.cells #[.string ⟨#[]⟩, .int .i64 0] 66 (0, 0)) := by rw [hW121]; exact heap_alloc_new _ _
     have hx123l : W95.heap.size < W120.heap.size := by rw [hW121]; simp
     rw [← hW121];clear hW121;have hb122 := qad hb97 hk124 (Below.size hb97);have hb122s := Below.size hb122;have hb122u := Below.size hb97;have hx125 := (hk124.block W1.heap.size (by omega)).trans hx98;refine ⟨⟨fun _ => trivial, hb122⟩, ?_⟩;refine qac rfl rfl (fun K hK => ?_);go_wp2_with fail
     refine (KB.out W120).mono ?_;rintro e W126 ⟨rfl, hl127⟩;have hb128 := qad hb122 hl127.below (Below.size hb122);have hb128s := Below.size hb128;have hx129 := (hl127.below.block W95.heap.size (by omega)).trans hx123;have hx130 := (hl127.below.block W1.heap.size (by omega)).trans hx125;have hb128t := Below.size hl127.below;refine hK _ _ ⟨⟨fun _ => trivial, hb128⟩, ?_⟩;clear hK K;refine qac rfl rfl (fun K hK => ?_);obtain ⟨q0, q1, qf⟩ := qaq hx129
     try simp only [keyV]
     go_wp2_with fail
     obtain ⟨W134, hW135⟩ : ∃ V, V = (W126.setCell ⟨W95.heap.size, 0, none⟩ (.string a.name)).setCell ⟨W95.heap.size, 1, none⟩ (.int .i64 a.sort) := ⟨_, rfl⟩;have hb131 : Below D.heap.size D W134 := by rw [hW135]; exact ((Below.setCell hb128 (by show D.heap.size ≤ W95.heap.size; omega) _).setCell (by show D.heap.size ≤ W95.heap.size; omega) _)
     have hx132 : W134.heap[W95.heap.size]? = some (.cells #[.string a.name, .int .i64 a.sort] 66 (0, 0)) := by rw [hW135]; exact qav hx129
     have hx133 : W134.heap[W1.heap.size]? = _ := (show W134.heap[W1.heap.size]? = W126.heap[W1.heap.size]? by rw [hW135]; exact qap (by omega)).trans hx130;rw [← hW135];clear hW135 q0 q1 qf;refine ⟨⟨fun _ => trivial, hb131⟩, ?_⟩;refine qac rfl rfl (fun K hK => ?_);obtain ⟨q0, q1, qf⟩ := qaq hx133
     try simp only [keyV]
     go_wp2_with fail
     obtain ⟨W139, hW140⟩ : ∃ V, V = (W134.setCell ⟨W1.heap.size, 0, none⟩ (.string b.name)).setCell ⟨W1.heap.size, 1, none⟩ (.int .i64 b.sort) := ⟨_, rfl⟩;have hb136 : Below D.heap.size D W139 := by rw [hW140]; exact ((Below.setCell hb131 (by show D.heap.size ≤ W1.heap.size; omega) _).setCell (by show D.heap.size ≤ W1.heap.size; omega) _)
     have hx137 : W139.heap[W1.heap.size]? = some (.cells #[.string b.name, .int .i64 b.sort] 66 (0, 0)) := by rw [hW140]; exact qav hx133
     have hx138 : W139.heap[W95.heap.size]? = _ := (show W139.heap[W95.heap.size]? = W134.heap[W95.heap.size]? by rw [hW140]; exact qap (by omega)).trans hx132;rw [← hW140];clear hW140 q0 q1 qf;refine ⟨⟨fun _ => trivial, hb136⟩, ?_⟩
     try simp only [Act.put, List.setIfInBounds_toArray, List.set_cons_succ, List.set_cons_zero, List.getElem_toArray, List.getElem_cons_succ, List.getElem_cons_zero]
     refine qaj ?_;exact ⟨rfl, W95.heap.size, W1.heap.size, by kernel_rfl, HMD.out.go (by omega) hb136, hx138, hx137, by omega, by omega, by omega⟩
  ·skip
   refine qac rfl rfl (fun K hK => ?_);go_wp2_with fail
   obtain ⟨W141, hW142⟩ : ∃ V, V = D.alloc (.cells #[.string ⟨#[]⟩, .int .i64 0] 66) := ⟨_, rfl⟩;have hk145 : Below D.heap.size D W141 := by rw [hW142]; exact qaf (Nat.le_refl _) _
   have hx144 : W141.heap[D.heap.size]? = some (.cells #[.string ⟨#[]⟩, .int .i64 0] 66 (0, 0)) := by rw [hW142]; exact heap_alloc_new _ _
   have hx144l : D.heap.size < W141.heap.size := by rw [hW142]; simp
   rw [← hW142];clear hW142;have hb143 := qad hbD hk145 (Below.size hbD);have hb143s := Below.size hb143;have hb143u := Below.size hbD;refine ⟨⟨fun _ => trivial, hb143⟩, ?_⟩;refine qa9 ?_ ?_
   ·skip
    refine qac rfl rfl (fun K hK => ?_);go_wp2_with fail
    refine (KA.out W141).mono ?_;rintro e W146 ⟨rfl, hl147⟩;have hb148 := qad hb143 hl147.below (Below.size hb143);have hb148s := Below.size hb148;have hx149 := (hl147.below.block D.heap.size (by omega)).trans hx144;have hb148t := Below.size hl147.below;refine hK _ _ ⟨⟨fun _ => trivial, hb148⟩, ?_⟩;clear hK K;refine qa9 ?_ ?_
    ·skip
     refine qac rfl rfl (fun K hK => ?_);go_wp2_with fail
     refine (KB.out W146).mono ?_;rintro e W150 ⟨rfl, hl151⟩;have hb152 := qad hb148 hl151.below (Below.size hb148);have hb152s := Below.size hb152;have hx153 := (hl151.below.block D.heap.size (by omega)).trans hx149;have hb152t := Below.size hl151.below;refine hK _ _ ⟨⟨fun _ => trivial, hb152⟩, ?_⟩;clear hK K;refine qac rfl rfl (fun K hK => ?_);go_wp2_with fail
     obtain ⟨W154, hW155⟩ : ∃ V, V = W150.alloc (.cells #[.string ⟨#[]⟩, .int .i64 0] 66) := ⟨_, rfl⟩;have hk158 : Below W150.heap.size W150 W154 := by rw [hW155]; exact qaf (Nat.le_refl _) _
     have hx157 : W154.heap[W150.heap.size]? = some (.cells #[.string ⟨#[]⟩, .int .i64 0] 66 (0, 0)) := by rw [hW155]; exact heap_alloc_new _ _
     have hx157l : W150.heap.size < W154.heap.size := by rw [hW155]; simp
     rw [← hW155];clear hW155;have hb156 := qad hb152 hk158 (Below.size hb152);have hb156s := Below.size hb156;have hb156u := Below.size hb152;have hx159 := (hk158.block D.heap.size (by omega)).trans hx153;refine ⟨⟨fun _ => trivial, hb156⟩, ?_⟩;refine qac rfl rfl (fun K hK => ?_);obtain ⟨q0, q1, qf⟩ := qaq hx159
     try simp only [keyV]
     go_wp2_with fail
     obtain ⟨W163, hW164⟩ : ∃ V, V = (W154.setCell ⟨D.heap.size, 0, none⟩ (.string a.name)).setCell ⟨D.heap.size, 1, none⟩ (.int .i64 a.sort) := ⟨_, rfl⟩;have hb160 : Below D.heap.size D W163 := by rw [hW164]; exact ((Below.setCell hb156 (by show D.heap.size ≤ D.heap.size; omega) _).setCell (by show D.heap.size ≤ D.heap.size; omega) _)
     have hx161 : W163.heap[D.heap.size]? = some (.cells #[.string a.name, .int .i64 a.sort] 66 (0, 0)) := by rw [hW164]; exact qav hx159
     have hx162 : W163.heap[W150.heap.size]? = _ := (show W163.heap[W150.heap.size]? = W154.heap[W150.heap.size]? by rw [hW164]; exact qap (by omega)).trans hx157;rw [← hW164];clear hW164 q0 q1 qf;refine ⟨⟨fun _ => trivial, hb160⟩, ?_⟩;refine qac rfl rfl (fun K hK => ?_);obtain ⟨q0, q1, qf⟩ := qaq hx162
     try simp only [keyV]
     go_wp2_with fail
     obtain ⟨W168, hW169⟩ : ∃ V, V = (W163.setCell ⟨W150.heap.size, 0, none⟩ (.string b.name)).setCell ⟨W150.heap.size, 1, none⟩ (.int .i64 b.sort) := ⟨_, rfl⟩;have hb165 : Below D.heap.size D W168 := by rw [hW169]; exact ((Below.setCell hb160 (by show D.heap.size ≤ W150.heap.size; omega) _).setCell (by show D.heap.size ≤ W150.heap.size; omega) _)
     have hx166 : W168.heap[W150.heap.size]? = some (.cells #[.string b.name, .int .i64 b.sort] 66 (0, 0)) := by rw [hW169]; exact qav hx162
     have hx167 : W168.heap[D.heap.size]? = _ := (show W168.heap[D.heap.size]? = W163.heap[D.heap.size]? by rw [hW169]; exact qap (by omega)).trans hx161;rw [← hW169];clear hW169 q0 q1 qf;refine ⟨⟨fun _ => trivial, hb165⟩, ?_⟩
     try simp only [Act.put, List.setIfInBounds_toArray, List.set_cons_succ, List.set_cons_zero, List.getElem_toArray, List.getElem_cons_succ, List.getElem_cons_zero]
     refine qaj ?_;exact ⟨rfl, D.heap.size, W150.heap.size, by kernel_rfl, HMD.out.go (by omega) hb165, hx167, hx166, by omega, by omega, by omega⟩
    ·skip
     refine qac rfl rfl (fun K hK => ?_);go_wp2_with fail
     obtain ⟨W170, hW171⟩ : ∃ V, V = W146.alloc (.cells #[.string ⟨#[]⟩, .int .i64 0] 66) := ⟨_, rfl⟩;have hk174 : Below W146.heap.size W146 W170 := by rw [hW171]; exact qaf (Nat.le_refl _) _
     have hx173 : W170.heap[W146.heap.size]? = some (.cells #[.string ⟨#[]⟩, .int .i64 0] 66 (0, 0)) := by rw [hW171]; exact heap_alloc_new _ _
     have hx173l : W146.heap.size < W170.heap.size := by rw [hW171]; simp
     rw [← hW171];clear hW171;have hb172 := qad hb148 hk174 (Below.size hb148);have hb172s := Below.size hb172;have hb172u := Below.size hb148;have hx175 := (hk174.block D.heap.size (by omega)).trans hx149;refine ⟨⟨fun _ => trivial, hb172⟩, ?_⟩;refine qac rfl rfl (fun K hK => ?_);go_wp2_with fail
     refine (KB.out W170).mono ?_;rintro e W176 ⟨rfl, hl177⟩;have hb178 := qad hb172 hl177.below (Below.size hb172);have hb178s := Below.size hb178;have hx179 := (hl177.below.block D.heap.size (by omega)).trans hx175;have hx180 := (hl177.below.block W146.heap.size (by omega)).trans hx173;have hb178t := Below.size hl177.below;refine hK _ _ ⟨⟨fun _ => trivial, hb178⟩, ?_⟩;clear hK K;refine qac rfl rfl (fun K hK => ?_);obtain ⟨q0, q1, qf⟩ := qaq hx179
     try simp only [keyV]
     go_wp2_with fail
     obtain ⟨W184, hW185⟩ : ∃ V, V = (W176.setCell ⟨D.heap.size, 0, none⟩ (.string a.name)).setCell ⟨D.heap.size, 1, none⟩ (.int .i64 a.sort) := ⟨_, rfl⟩;have hb181 : Below D.heap.size D W184 := by rw [hW185]; exact ((Below.setCell hb178 (by show D.heap.size ≤ D.heap.size; omega) _).setCell (by show D.heap.size ≤ D.heap.size; omega) _)
     have hx182 : W184.heap[D.heap.size]? = some (.cells #[.string a.name, .int .i64 a.sort] 66 (0, 0)) := by rw [hW185]; exact qav hx179
     have hx183 : W184.heap[W146.heap.size]? = _ := (show W184.heap[W146.heap.size]? = W176.heap[W146.heap.size]? by rw [hW185]; exact qap (by omega)).trans hx180;rw [← hW185];clear hW185 q0 q1 qf;refine ⟨⟨fun _ => trivial, hb181⟩, ?_⟩;refine qac rfl rfl (fun K hK => ?_);obtain ⟨q0, q1, qf⟩ := qaq hx183
     try simp only [keyV]
     go_wp2_with fail
     obtain ⟨W189, hW190⟩ : ∃ V, V = (W184.setCell ⟨W146.heap.size, 0, none⟩ (.string b.name)).setCell ⟨W146.heap.size, 1, none⟩ (.int .i64 b.sort) := ⟨_, rfl⟩;have hb186 : Below D.heap.size D W189 := by rw [hW190]; exact ((Below.setCell hb181 (by show D.heap.size ≤ W146.heap.size; omega) _).setCell (by show D.heap.size ≤ W146.heap.size; omega) _)
     have hx187 : W189.heap[W146.heap.size]? = some (.cells #[.string b.name, .int .i64 b.sort] 66 (0, 0)) := by rw [hW190]; exact qav hx183
     have hx188 : W189.heap[D.heap.size]? = _ := (show W189.heap[D.heap.size]? = W184.heap[D.heap.size]? by rw [hW190]; exact qap (by omega)).trans hx182;rw [← hW190];clear hW190 q0 q1 qf;refine ⟨⟨fun _ => trivial, hb186⟩, ?_⟩
     try simp only [Act.put, List.setIfInBounds_toArray, List.set_cons_succ, List.set_cons_zero, List.getElem_toArray, List.getElem_cons_succ, List.getElem_cons_zero]
     refine qaj ?_;exact ⟨rfl, D.heap.size, W146.heap.size, by kernel_rfl, HMD.out.go (by omega) hb186, hx188, hx187, by omega, by omega, by omega⟩
   ·skip
    refine qac rfl rfl (fun K hK => ?_);go_wp2_with fail
    obtain ⟨W191, hW192⟩ : ∃ V, V = W141.alloc (.cells #[.string ⟨#[]⟩, .int .i64 0] 66) := ⟨_, rfl⟩;have hk195 : Below W141.heap.size W141 W191 := by rw [hW192]; exact qaf (Nat.le_refl _) _
    have hx194 : W191.heap[W141.heap.size]? = some (.cells #[.string ⟨#[]⟩, .int .i64 0] 66 (0, 0)) := by rw [hW192]; exact heap_alloc_new _ _
    have hx194l : W141.heap.size < W191.heap.size := by rw [hW192]; simp
    rw [← hW192];clear hW192;have hb193 := qad hb143 hk195 (Below.size hb143);have hb193s := Below.size hb193;have hb193u := Below.size hb143;have hx196 := (hk195.block D.heap.size (by omega)).trans hx144;refine ⟨⟨fun _ => trivial, hb193⟩, ?_⟩;refine qac rfl rfl (fun K hK => ?_);go_wp2_with fail
    refine (KA.out W191).mono ?_;rintro e W197 ⟨rfl, hl198⟩;have hb199 := qad hb193 hl198.below (Below.size hb193);have hb199s := Below.size hb199;have hx200 := (hl198.below.block D.heap.size (by omega)).trans hx196;have hx201 := (hl198.below.block W141.heap.size (by omega)).trans hx194;have hb199t := Below.size hl198.below;refine hK _ _ ⟨⟨fun _ => trivial, hb199⟩, ?_⟩;clear hK K;refine qac rfl rfl (fun K hK => ?_);go_wp2_with fail
    refine (KB.out W197).mono ?_;rintro e W202 ⟨rfl, hl203⟩;have hb204 := qad hb199 hl203.below (Below.size hb199);have hb204s := Below.size hb204;have hx205 := (hl203.below.block D.heap.size (by omega)).trans hx200;have hx206 := (hl203.below.block W141.heap.size (by omega)).trans hx201;have hb204t := Below.size hl203.below;refine hK _ _ ⟨⟨fun _ => trivial, hb204⟩, ?_⟩;clear hK K;refine qac rfl rfl (fun K hK => ?_);obtain ⟨q0, q1, qf⟩ := qaq hx205
    try simp only [keyV]
    go_wp2_with fail
    obtain ⟨W210, hW211⟩ : ∃ V, V = (W202.setCell ⟨D.heap.size, 0, none⟩ (.string a.name)).setCell ⟨D.heap.size, 1, none⟩ (.int .i64 a.sort) := ⟨_, rfl⟩;have hb207 : Below D.heap.size D W210 := by rw [hW211]; exact ((Below.setCell hb204 (by show D.heap.size ≤ D.heap.size; omega) _).setCell (by show D.heap.size ≤ D.heap.size; omega) _)
    have hx208 : W210.heap[D.heap.size]? = some (.cells #[.string a.name, .int .i64 a.sort] 66 (0, 0)) := by rw [hW211]; exact qav hx205
    have hx209 : W210.heap[W141.heap.size]? = _ := (show W210.heap[W141.heap.size]? = W202.heap[W141.heap.size]? by rw [hW211]; exact qap (by omega)).trans hx206;rw [← hW211];clear hW211 q0 q1 qf;refine ⟨⟨fun _ => trivial, hb207⟩, ?_⟩;refine qac rfl rfl (fun K hK => ?_);obtain ⟨q0, q1, qf⟩ := qaq hx209
    try simp only [keyV]
    go_wp2_with fail
    obtain ⟨W215, hW216⟩ : ∃ V, V = (W210.setCell ⟨W141.heap.size, 0, none⟩ (.string b.name)).setCell ⟨W141.heap.size, 1, none⟩ (.int .i64 b.sort) := ⟨_, rfl⟩;have hb212 : Below D.heap.size D W215 := by rw [hW216]; exact ((Below.setCell hb207 (by show D.heap.size ≤ W141.heap.size; omega) _).setCell (by show D.heap.size ≤ W141.heap.size; omega) _)
    have hx213 : W215.heap[W141.heap.size]? = some (.cells #[.string b.name, .int .i64 b.sort] 66 (0, 0)) := by rw [hW216]; exact qav hx209
    have hx214 : W215.heap[D.heap.size]? = _ := (show W215.heap[D.heap.size]? = W210.heap[D.heap.size]? by rw [hW216]; exact qap (by omega)).trans hx208;rw [← hW216];clear hW216 q0 q1 qf;refine ⟨⟨fun _ => trivial, hb212⟩, ?_⟩
    try simp only [Act.put, List.setIfInBounds_toArray, List.set_cons_succ, List.set_cons_zero, List.getElem_toArray, List.getElem_cons_succ, List.getElem_cons_zero]
    refine qaj ?_;exact ⟨rfl, D.heap.size, W141.heap.size, by kernel_rfl, HMD.out.go (by omega) hb212, hx214, hx213, by omega, by omega, by omega⟩
  ·skip
   refine qac rfl rfl (fun K hK => ?_);go_wp2_with fail
   obtain ⟨W217, hW218⟩ : ∃ V, V = D.alloc (.cells #[.string ⟨#[]⟩, .int .i64 0] 66) := ⟨_, rfl⟩;have hk221 : Below D.heap.size D W217 := by rw [hW218]; exact qaf (Nat.le_refl _) _
   have hx220 : W217.heap[D.heap.size]? = some (.cells #[.string ⟨#[]⟩, .int .i64 0] 66 (0, 0)) := by rw [hW218]; exact heap_alloc_new _ _
   have hx220l : D.heap.size < W217.heap.size := by rw [hW218]; simp
   rw [← hW218];clear hW218;have hb219 := qad hbD hk221 (Below.size hbD);have hb219s := Below.size hb219;have hb219u := Below.size hbD;refine ⟨⟨fun _ => trivial, hb219⟩, ?_⟩;refine qa9 ?_ ?_
   ·skip
    refine qac rfl rfl (fun K hK => ?_);go_wp2_with fail
    refine (KA.out W217).mono ?_;rintro e W222 ⟨rfl, hl223⟩;have hb224 := qad hb219 hl223.below (Below.size hb219);have hb224s := Below.size hb224;have hx225 := (hl223.below.block D.heap.size (by omega)).trans hx220;have hb224t := Below.size hl223.below;refine hK _ _ ⟨⟨fun _ => trivial, hb224⟩, ?_⟩;clear hK K;refine qa9 ?_ ?_
    ·skip
     refine qac rfl rfl (fun K hK => ?_);go_wp2_with fail
     refine (KB.out W222).mono ?_;rintro e W226 ⟨rfl, hl227⟩;have hb228 := qad hb224 hl227.below (Below.size hb224);have hb228s := Below.size hb228;have hx229 := (hl227.below.block D.heap.size (by omega)).trans hx225;have hb228t := Below.size hl227.below;refine hK _ _ ⟨⟨fun _ => trivial, hb228⟩, ?_⟩;clear hK K;refine qac rfl rfl (fun K hK => ?_);go_wp2_with fail
     obtain ⟨W230, hW231⟩ : ∃ V, V = W226.alloc (.cells #[.string ⟨#[]⟩, .int .i64 0] 66) := ⟨_, rfl⟩;have hk234 : Below W226.heap.size W226 W230 := by rw [hW231]; exact qaf (Nat.le_refl _) _
     have hx233 : W230.heap[W226.heap.size]? = some (.cells #[.string ⟨#[]⟩, .int .i64 0] 66 (0, 0)) := by rw [hW231]; exact heap_alloc_new _ _
     have hx233l : W226.heap.size < W230.heap.size := by rw [hW231]; simp
     rw [← hW231];clear hW231;have hb232 := qad hb228 hk234 (Below.size hb228);have hb232s := Below.size hb232;have hb232u := Below.size hb228;have hx235 := (hk234.block D.heap.size (by omega)).trans hx229;refine ⟨⟨fun _ => trivial, hb232⟩, ?_⟩;refine qac rfl rfl (fun K hK => ?_);obtain ⟨q0, q1, qf⟩ := qaq hx233
     try simp only [keyV]
     go_wp2_with fail
     obtain ⟨W239, hW240⟩ : ∃ V, V = (W230.setCell ⟨W226.heap.size, 0, none⟩ (.string a.name)).setCell ⟨W226.heap.size, 1, none⟩ (.int .i64 a.sort) := ⟨_, rfl⟩;have hb236 : Below D.heap.size D W239 := by rw [hW240]; exact ((Below.setCell hb232 (by show D.heap.size ≤ W226.heap.size; omega) _).setCell (by show D.heap.size ≤ W226.heap.size; omega) _)
     have hx237 : W239.heap[W226.heap.size]? = some (.cells #[.string a.name, .int .i64 a.sort] 66 (0, 0)) := by rw [hW240]; exact qav hx233
     have hx238 : W239.heap[D.heap.size]? = _ := (show W239.heap[D.heap.size]? = W230.heap[D.heap.size]? by rw [hW240]; exact qap (by omega)).trans hx235;rw [← hW240];clear hW240 q0 q1 qf;refine ⟨⟨fun _ => trivial, hb236⟩, ?_⟩;refine qac rfl rfl (fun K hK => ?_);obtain ⟨q0, q1, qf⟩ := qaq hx238
     try simp only [keyV]
     go_wp2_with fail
     obtain ⟨W244, hW245⟩ : ∃ V, V = (W239.setCell ⟨D.heap.size, 0, none⟩ (.string b.name)).setCell ⟨D.heap.size, 1, none⟩ (.int .i64 b.sort) := ⟨_, rfl⟩;have hb241 : Below D.heap.size D W244 := by rw [hW245]; exact ((Below.setCell hb236 (by show D.heap.size ≤ D.heap.size; omega) _).setCell (by show D.heap.size ≤ D.heap.size; omega) _)
     have hx242 : W244.heap[D.heap.size]? = some (.cells #[.string b.name, .int .i64 b.sort] 66 (0, 0)) := by rw [hW245]; exact qav hx238
     have hx243 : W244.heap[W226.heap.size]? = _ := (show W244.heap[W226.heap.size]? = W239.heap[W226.heap.size]? by rw [hW245]; exact qap (by omega)).trans hx237;rw [← hW245];clear hW245 q0 q1 qf;refine ⟨⟨fun _ => trivial, hb241⟩, ?_⟩
     try simp only [Act.put, List.setIfInBounds_toArray, List.set_cons_succ, List.set_cons_zero, List.getElem_toArray, List.getElem_cons_succ, List.getElem_cons_zero]
     refine qaj ?_;exact ⟨rfl, W226.heap.size, D.heap.size, by kernel_rfl, HMD.out.go (by omega) hb241, hx243, hx242, by omega, by omega, by omega⟩
    ·skip
     refine qac rfl rfl (fun K hK => ?_);go_wp2_with fail
     obtain ⟨W246, hW247⟩ : ∃ V, V = W222.alloc (.cells #[.string ⟨#[]⟩, .int .i64 0] 66) := ⟨_, rfl⟩;have hk250 : Below W222.heap.size W222 W246 := by rw [hW247]; exact qaf (Nat.le_refl _) _
     have hx249 : W246.heap[W222.heap.size]? = some (.cells #[.string ⟨#[]⟩, .int .i64 0] 66 (0, 0)) := by rw [hW247]; exact heap_alloc_new _ _
     have hx249l : W222.heap.size < W246.heap.size := by rw [hW247]; simp
     rw [← hW247];clear hW247;have hb248 := qad hb224 hk250 (Below.size hb224);have hb248s := Below.size hb248;have hb248u := Below.size hb224;have hx251 := (hk250.block D.heap.size (by omega)).trans hx225;refine ⟨⟨fun _ => trivial, hb248⟩, ?_⟩;refine qac rfl rfl (fun K hK => ?_);go_wp2_with fail
     refine (KB.out W246).mono ?_;rintro e W252 ⟨rfl, hl253⟩;have hb254 := qad hb248 hl253.below (Below.size hb248);have hb254s := Below.size hb254;have hx255 := (hl253.below.block W222.heap.size (by omega)).trans hx249;have hx256 := (hl253.below.block D.heap.size (by omega)).trans hx251;have hb254t := Below.size hl253.below;refine hK _ _ ⟨⟨fun _ => trivial, hb254⟩, ?_⟩;clear hK K;refine qac rfl rfl (fun K hK => ?_);obtain ⟨q0, q1, qf⟩ := qaq hx255
     try simp only [keyV]
     go_wp2_with fail
     obtain ⟨W260, hW261⟩ : ∃ V, V = (W252.setCell ⟨W222.heap.size, 0, none⟩ (.string a.name)).setCell ⟨W222.heap.size, 1, none⟩ (.int .i64 a.sort) := ⟨_, rfl⟩;have hb257 : Below D.heap.size D W260 := by rw [hW261]; exact ((Below.setCell hb254 (by show D.heap.size ≤ W222.heap.size; omega) _).setCell (by show D.heap.size ≤ W222.heap.size; omega) _)
     have hx258 : W260.heap[W222.heap.size]? = some (.cells #[.string a.name, .int .i64 a.sort] 66 (0, 0)) := by rw [hW261]; exact qav hx255
     have hx259 : W260.heap[D.heap.size]? = _ := (show W260.heap[D.heap.size]? = W252.heap[D.heap.size]? by rw [hW261]; exact qap (by omega)).trans hx256;rw [← hW261];clear hW261 q0 q1 qf;refine ⟨⟨fun _ => trivial, hb257⟩, ?_⟩;refine qac rfl rfl (fun K hK => ?_);obtain ⟨q0, q1, qf⟩ := qaq hx259
     try simp only [keyV]
     go_wp2_with fail
     obtain ⟨W265, hW266⟩ : ∃ V, V = (W260.setCell ⟨D.heap.size, 0, none⟩ (.string b.name)).setCell ⟨D.heap.size, 1, none⟩ (.int .i64 b.sort) := ⟨_, rfl⟩;have hb262 : Below D.heap.size D W265 := by rw [hW266]; exact ((Below.setCell hb257 (by show D.heap.size ≤ D.heap.size; omega) _).setCell (by show D.heap.size ≤ D.heap.size; omega) _)
     have hx263 : W265.heap[D.heap.size]? = some (.cells #[.string b.name, .int .i64 b.sort] 66 (0, 0)) := by rw [hW266]; exact qav hx259
     have hx264 : W265.heap[W222.heap.size]? = _ := (show W265.heap[W222.heap.size]? = W260.heap[W222.heap.size]? by rw [hW266]; exact qap (by omega)).trans hx258;rw [← hW266];clear hW266 q0 q1 qf;refine ⟨⟨fun _ => trivial, hb262⟩, ?_⟩
     try simp only [Act.put, List.setIfInBounds_toArray, List.set_cons_succ, List.set_cons_zero, List.getElem_toArray, List.getElem_cons_succ, List.getElem_cons_zero]
     refine qaj ?_;exact ⟨rfl, W222.heap.size, D.heap.size, by kernel_rfl, HMD.out.go (by omega) hb262, hx264, hx263, by omega, by omega, by omega⟩
   ·skip
    refine qac rfl rfl (fun K hK => ?_);go_wp2_with fail
    obtain ⟨W267, hW268⟩ : ∃ V, V = W217.alloc (.cells #[.string ⟨#[]⟩, .int .i64 0] 66) := ⟨_, rfl⟩;have hk271 : Below W217.heap.size W217 W267 := by rw [hW268]; exact qaf (Nat.le_refl _) _
    have hx270 : W267.heap[W217.heap.size]? = some (.cells #[.string ⟨#[]⟩, .int .i64 0] 66 (0, 0)) := by rw [hW268]; exact heap_alloc_new _ _
    have hx270l : W217.heap.size < W267.heap.size := by rw [hW268]; simp
    rw [← hW268];clear hW268;have hb269 := qad hb219 hk271 (Below.size hb219);have hb269s := Below.size hb269;have hb269u := Below.size hb219;have hx272 := (hk271.block D.heap.size (by omega)).trans hx220;refine ⟨⟨fun _ => trivial, hb269⟩, ?_⟩;refine qac rfl rfl (fun K hK => ?_);go_wp2_with fail
    refine (KA.out W267).mono ?_;rintro e W273 ⟨rfl, hl274⟩;have hb275 := qad hb269 hl274.below (Below.size hb269);have hb275s := Below.size hb275;have hx276 := (hl274.below.block W217.heap.size (by omega)).trans hx270;have hx277 := (hl274.below.block D.heap.size (by omega)).trans hx272;have hb275t := Below.size hl274.below;refine hK _ _ ⟨⟨fun _ => trivial, hb275⟩, ?_⟩;clear hK K;refine qac rfl rfl (fun K hK => ?_);go_wp2_with fail
    refine (KB.out W273).mono ?_;rintro e W278 ⟨rfl, hl279⟩;have hb280 := qad hb275 hl279.below (Below.size hb275);have hb280s := Below.size hb280;have hx281 := (hl279.below.block W217.heap.size (by omega)).trans hx276;have hx282 := (hl279.below.block D.heap.size (by omega)).trans hx277;have hb280t := Below.size hl279.below;refine hK _ _ ⟨⟨fun _ => trivial, hb280⟩, ?_⟩;clear hK K;refine qac rfl rfl (fun K hK => ?_);obtain ⟨q0, q1, qf⟩ := qaq hx281
    try simp only [keyV]
    go_wp2_with fail
    obtain ⟨W286, hW287⟩ : ∃ V, V = (W278.setCell ⟨W217.heap.size, 0, none⟩ (.string a.name)).setCell ⟨W217.heap.size, 1, none⟩ (.int .i64 a.sort) := ⟨_, rfl⟩;have hb283 : Below D.heap.size D W286 := by rw [hW287]; exact ((Below.setCell hb280 (by show D.heap.size ≤ W217.heap.size; omega) _).setCell (by show D.heap.size ≤ W217.heap.size; omega) _)
    have hx284 : W286.heap[W217.heap.size]? = some (.cells #[.string a.name, .int .i64 a.sort] 66 (0, 0)) := by rw [hW287]; exact qav hx281
    have hx285 : W286.heap[D.heap.size]? = _ := (show W286.heap[D.heap.size]? = W278.heap[D.heap.size]? by rw [hW287]; exact qap (by omega)).trans hx282;rw [← hW287];clear hW287 q0 q1 qf;refine ⟨⟨fun _ => trivial, hb283⟩, ?_⟩;refine qac rfl rfl (fun K hK => ?_);obtain ⟨q0, q1, qf⟩ := qaq hx285
    try simp only [keyV]
    go_wp2_with fail
    obtain ⟨W291, hW292⟩ : ∃ V, V = (W286.setCell ⟨D.heap.size, 0, none⟩ (.string b.name)).setCell ⟨D.heap.size, 1, none⟩ (.int .i64 b.sort) := ⟨_, rfl⟩;have hb288 : Below D.heap.size D W291 := by rw [hW292]; exact ((Below.setCell hb283 (by show D.heap.size ≤ D.heap.size; omega) _).setCell (by show D.heap.size ≤ D.heap.size; omega) _)
    have hx289 : W291.heap[D.heap.size]? = some (.cells #[.string b.name, .int .i64 b.sort] 66 (0, 0)) := by rw [hW292]; exact qav hx285
    have hx290 : W291.heap[W217.heap.size]? = _ := (show W291.heap[W217.heap.size]? = W286.heap[W217.heap.size]? by rw [hW292]; exact qap (by omega)).trans hx284;rw [← hW292];clear hW292 q0 q1 qf;refine ⟨⟨fun _ => trivial, hb288⟩, ?_⟩
    try simp only [Act.put, List.setIfInBounds_toArray, List.set_cons_succ, List.set_cons_zero, List.getElem_toArray, List.getElem_cons_succ, List.getElem_cons_zero]
    refine qaj ?_;exact ⟨rfl, W217.heap.size, D.heap.size, by kernel_rfl, HMD.out.go (by omega) hb288, hx290, hx289, by omega, by omega, by omega⟩
 rintro a' w3 ⟨X, Y, rfl, HM3, hX, hY, hXY, hX2, hY2⟩;simp only [Act.put, List.setIfInBounds_toArray, List.set_cons_succ, List.set_cons_zero, List.getElem_toArray, List.getElem_cons_succ, List.getElem_cons_zero];obtain ⟨p, hp⟩ : ∃ p, p = hasS m a := ⟨_, rfl⟩;obtain ⟨q, hq⟩ : ∃ q, q = hasS (swB m) b := ⟨_, rfl⟩;obtain ⟨s1, i1, hu⟩ : ∃ s1 i1, (if hasS m a = true then keyV (getS m a) else qms) = .agg #[.string s1, .int .i64 i1] := by
  by_cases h : hasS m a = true
  ·exact ⟨_, _, by rw [if_pos h]; rfl⟩
  ·exact ⟨_, _, by rw [if_neg h]; rfl⟩
 obtain ⟨s2, i2, hv⟩ : ∃ s2 i2, (if hasS (swB m) b = true then keyV (getS (swB m) b) else qms) = .agg #[.string s2, .int .i64 i2] := by
  by_cases h : hasS (swB m) b = true
  ·exact ⟨_, _, by rw [if_pos h]; rfl⟩
  ·exact ⟨_, _, by rw [if_neg h]; rfl⟩
 have HU : Hid (p = true → (getS m a).name = s1 ∧ (getS m a).sort = i1) := Lib.hid fun h => by
  rw [hp] at h; rw [if_pos h] at hu;unfold keyV at hu;have h1 := congrArg Array.toList (Value.agg.inj hu);simp only [List.cons.injEq, Value.string.injEq, Value.int.injEq, true_and, and_true] at h1;exact h1
 have HVV : Hid (q = true → (getS (swB m) b).name = s2 ∧ (getS (swB m) b).sort = i2) := Lib.hid fun h => by
  rw [hq] at h; rw [if_pos h] at hv;unfold keyV at hv;have h1 := congrArg Array.toList (Value.agg.inj hv);simp only [List.cons.injEq, Value.string.injEq, Value.int.injEq, true_and, and_true] at h1;exact h1
 have L1 : Hid (∀ Z, MapI Z tb n1 m → (Instr.lookup 82 (.map (some tb)) (.agg #[.string a.name, .int .i64 a.sort]) true).run Tryz.prog Z = .ok (.tuple #[.agg #[.string s1, .int .i64 i1], .bool p]) Z) := Lib.hid fun Z hZ => by
  have := hZ.look HKA.out.1 HKA.out.2.1 HKA.out.2.2;rw [hu, ← hp] at this;exact this
 have L2 : Hid (∀ Z, MapI Z kb n2 (swB m) → (Instr.lookup 82 (.map (some kb)) (.agg #[.string b.name, .int .i64 b.sort]) true).run Tryz.prog Z = .ok (.tuple #[.agg #[.string s2, .int .i64 i2], .bool q]) Z) := Lib.hid fun Z hZ => by
  have := hZ.look HKB.out.1 HKB.out.2.1 HKB.out.2.2;rw [hv, ← hq] at this;exact this
 have HP := Lib.hid hp; have HQ := Lib.hid hq;have HX3 := Lib.hid hX; have HY3 := Lib.hid hY;have HXL : Hid (X ≠ Y ∧ w.heap.size + 2 ≤ X ∧ w.heap.size + 2 ≤ Y) := Lib.hid ⟨hXY, hX2, hY2⟩;clear hp hq hu hv hX hY hXY hX2 hY2;go_upto_region 3 with fail
 go_cut [11, 12] from 16 (fun x y wr => ∃ (P : Nat), x = .pointer (some ⟨P, 0, none⟩) ∧ y = .bool p ∧ Hid (VAt tb kb B n1 n2 m w (boxT a A ca) (boxT b A' cb) wr) ∧ Hid (wr.heap[X]? = some (.cells #[.string a.name, .int .i64 a.sort] 66 (0, 0))) ∧ Hid (wr.heap[Y]? = some (.cells #[.string b.name, .int .i64 b.sort] 66 (0, 0))) ∧ Hid (wr.heap[P]? = some (.cells #[.string s1, .int .i64 i1] 66 (0, 0))))
 case first =>
  obtain ⟨x0, x1, -⟩ := qaq HX3.out;obtain ⟨Z, hZ⟩ : ∃ Z, Z = w3.alloc (.cells #[.string s1, .int .i64 i1] 66) := ⟨_, rfl⟩;have hbZ : Below w3.heap.size w3 Z := by rw [hZ]; exact qaf (Nat.le_refl _) _
  have HMZ := Lib.hid (HM3.out.go (by omega) hbZ);have HPZ : Hid (Z.heap[w3.heap.size]? = some (.cells #[.string s1, .int .i64 i1] 66 (0, 0))) := Lib.hid (by rw [hZ]; exact heap_alloc_new _ _);have HXZ := Lib.hid ((hbZ.block _ (Array.getElem?_eq_some_iff.1 HX3.out).1).trans HX3.out);have HYZ := Lib.hid ((hbZ.block _ (Array.getElem?_eq_some_iff.1 HY3.out).1).trans HY3.out);have hrun := L1.out w3 HM3.out.m1;have HZ := Lib.hid hZ;clear hbZ hZ HM3 HX3 HY3;go_wp2_with (at_lookup; refine qbj rfl _ _ rfl rfl rfl hrun ?_)
  rw [← HZ.out];go_meet
  case rel => exact ⟨_, rfl, rfl, HMZ.out, HXZ.out, HYZ.out, HPZ.out⟩
 case rest =>
  obtain ⟨P, rfl, rfl, HM4, HX4, HY4, HP4⟩ := hcut;clear HM3 HX3 HY3 L1;generalize wc = w4 at *;go_upto_region 4 with fail
  go_cut [13, 14] from 16 (fun x y wr => ∃ (P' : Nat), x = .pointer (some ⟨P', 0, none⟩) ∧ y = .bool q ∧ Hid (VAt tb kb B n1 n2 m w (boxT a A ca) (boxT b A' cb) wr) ∧ Hid (wr.heap[X]? = some (.cells #[.string a.name, .int .i64 a.sort] 66 (0, 0))) ∧ Hid (wr.heap[Y]? = some (.cells #[.string b.name, .int .i64 b.sort] 66 (0, 0))) ∧ Hid (wr.heap[P]? = some (.cells #[.string s1, .int .i64 i1] 66 (0, 0))) ∧ Hid (wr.heap[P']? = some (.cells #[.string s2, .int .i64 i2] 66 (0, 0))))
  case first =>
   obtain ⟨x0, x1, -⟩ := qaq HY4.out;obtain ⟨Z, hZ⟩ : ∃ Z, Z = w4.alloc (.cells #[.string s2, .int .i64 i2] 66) := ⟨_, rfl⟩;have hbZ : Below w4.heap.size w4 Z := by rw [hZ]; exact qaf (Nat.le_refl _) _
   have HMZ := Lib.hid (HM4.out.go (by omega) hbZ);have HPZ : Hid (Z.heap[w4.heap.size]? = some (.cells #[.string s2, .int .i64 i2] 66 (0, 0))) := Lib.hid (by rw [hZ]; exact heap_alloc_new _ _);have HXZ := Lib.hid ((hbZ.block _ (Array.getElem?_eq_some_iff.1 HX4.out).1).trans HX4.out);have HYZ := Lib.hid ((hbZ.block _ (Array.getElem?_eq_some_iff.1 HY4.out).1).trans HY4.out);have HQZ := Lib.hid ((hbZ.block _ (Array.getElem?_eq_some_iff.1 HP4.out).1).trans HP4.out);have hrun := L2.out w4 HM4.out.m2;have HZ := Lib.hid hZ;clear hbZ hZ HM4 HX4 HY4 HP4;go_wp2_with (at_lookup; refine qbj rfl _ _ rfl rfl rfl hrun ?_)
   rw [← HZ.out];go_meet
   case rel => exact ⟨_, rfl, rfl, HMZ.out, HXZ.out, HYZ.out, HQZ.out, HPZ.out⟩
  case rest =>
   obtain ⟨P', rfl, rfl, HM5, HX5, HY5, HP5, HQ5⟩ := hcut;clear HM4 HX4 HY4 HP4 L2;generalize wc = w5 at *;obtain ⟨x0, x1, xf⟩ := qaq HX5.out;obtain ⟨y0, y1, yf⟩ := qaq HY5.out;obtain ⟨p0, p1, pf⟩ := qaq HP5.out;obtain ⟨q0, q1, qf⟩ := qaq HQ5.out
   cases hp : p with
   | true =>
    have hh : hasS m a = true := HP.out.symm.trans hp;obtain ⟨g1, g2⟩ := HU.out hp;obtain ⟨gk, gd⟩ := HM5.out.m1.var hh;have hE1 : (getS m a = b) ↔ (s1 = b.name ∧ i1 = b.sort) := by
     rw [← g1, ← g2];exact ⟨fun e => by rw [e]; exact ⟨rfl, rfl⟩, fun e => qgm ⟨gk, gd⟩ ⟨HKB.out.1, HKB.out.2.1⟩ e.1 e.2⟩
    have hr := HR.out.trans (if_pos (Or.inl hh));rw [hh, ← HQ.out] at hr;clear HP HU g1 g2 gk gd hh hp
    cases hq : q with
    | true =>
     have hh2 : hasS (swB m) b = true := HQ.out.symm.trans hq;obtain ⟨g1, g2⟩ := HVV.out hq;obtain ⟨gk, gd⟩ := HM5.out.m2.var hh2;have hE2 : (getS (swB m) b = a) ↔ (s2 = a.name ∧ i2 = a.sort) := by
      rw [← g1, ← g2];exact ⟨fun e => by rw [e]; exact ⟨rfl, rfl⟩, fun e => qgm ⟨gk, gd⟩ ⟨HKA.out.1, HKA.out.2.1⟩ e.1 e.2⟩
     rw [hq] at hr;have HR2 := Lib.hid hr;have HE1 := Lib.hid hE1; have HE2 := Lib.hid hE2;clear hr HQ HVV g1 g2 gk gd hh2 hq hE1 hE2 HR;go_wp2_with fail
     all_goals
      go_ret
      rw [HR2.out];have hj : ∀ x y : ByteArray, x.toList = y.toList ↔ x = y := fun x y => ⟨fun h => ByteArray.ext (Array.toList_inj.1 (by rw [← ByteArray.toList_eq, ← ByteArray.toList_eq]; exact h)), fun h => by rw [h]⟩;have e1 := HE1.out; have e2 := HE2.out;rw [← hj s1] at e1;rw [← hj s2] at e2;have HN : ∀ z : Bool, (true && true && decide (getS m a = b) && decide (getS (swB m) b = a)) = z → VrtD tb kb B (c + 1) (m, true && true && decide (getS m a = b) && decide (getS (swB m) b = a)) w (.returned (.bool z)) w5 := fun z hz => by
       rw [hz]; exact HM5.out.done (by omega) (by omega) z
      first
      | exact HN true (by rw [decide_eq_true (e1.2 ⟨by assumption, by assumption⟩), decide_eq_true (e2.2 ⟨by assumption, by assumption⟩)]; rfl)
      | exact HN false (by rw [decide_eq_false (show ¬ getS m a = b from fun h => by have := (e1.1 h).1; contradiction)]; simp)
      | exact HN false (by rw [decide_eq_false (show ¬ getS m a = b from fun h => by have := (e1.1 h).2; contradiction)]; simp)
      | exact HN false (by rw [decide_eq_false (show ¬ getS (swB m) b = a from fun h => by have := (e2.1 h).1; contradiction)]; simp)
      | exact HN false (by rw [decide_eq_false (show ¬ getS (swB m) b = a from fun h => by have := (e2.1 h).2; contradiction)]; simp)
    | false =>
     rw [hq] at hr;have HR2 := Lib.hid hr;clear hr HQ HVV hq hE1 HR;go_wp2_with fail
     go_ret
     rw [HR2.out];exact HM5.out.done (by omega) (by omega) _
   | false =>
    have hh : hasS m a = false := HP.out.symm.trans hp
    cases hq : q with
    | true =>
     have hh2 : hasS (swB m) b = true := HQ.out.symm.trans hq;have hr := HR.out.trans (if_pos (Or.inr hh2));rw [hh] at hr;have HR2 := Lib.hid hr;clear hr HQ HVV hq HR HP HU hp hh hh2;go_wp2_with fail
     go_ret
     rw [HR2.out];exact HM5.out.done (by omega) (by omega) _
    | false =>
     have hh2 : hasS (swB m) b = false := HQ.out.symm.trans hq;have hr := HR.out.trans (if_neg (by rw [hh, hh2]; simp));have HR2 := Lib.hid hr;have HH := Lib.hid hh; have HH2 := Lib.hid hh2;clear hr HQ HVV hq HR HP HU hp hh hh2 p0 p1 pf q0 q1 qf HP5 HQ5 x0 x1 xf y0 y1 yf;go_wp2_with fail
     refine qai (fun _ => True) (fun Z => Z.heap[X]? = some (.cells #[.string a.name, .int .i64 a.sort] 66 (0, 0)) ∧ Z.heap[Y]? = some (.cells #[.string b.name, .int .i64 b.sort] 66 (0, 0))) [] (.held 0 (.held 1 (.held 2 (.held 3 (.held 4 (.held 5 (.op 6 (.op 7 .nil)))))))) mixed (by kernel_rfl) ?_;have HMD : Hid (VAt tb kb B n1 n2 m w (boxT a A ca) (boxT b A' cb) w5.drew) := Lib.hid (HM5.out.go (by omega) (Below.refl _ _).drew);have HXY : Hid (w5.drew.heap[X]? = some (.cells #[.string a.name, .int .i64 a.sort] 66 (0, 0)) ∧ w5.drew.heap[Y]? = some (.cells #[.string b.name, .int .i64 b.sort] 66 (0, 0))) := Lib.hid ⟨HX5.out, HY5.out⟩;clear HM5 HX5 HY5;generalize w5.drew = D at *;refine qaa (v := .map (some tb)) rfl rfl rfl (fun _ _ _ h => h) trivial HXY.out (fun Z _ _ => by
      (try simp only [Act.put]); go_simp) ?_
     refine qaa (v := .agg #[.string a.name, .int .i64 a.sort]) rfl rfl rfl (fun _ _ _ h => h) trivial HXY.out (fun Z _ hZ => by
      obtain ⟨z0, z1, -⟩ := qaq hZ.1;clear hZ
      (try simp only [Act.put]); go_simp) ?_
     refine qaa (v := .map (some kb)) rfl rfl rfl (fun _ _ _ h => h) trivial HXY.out (fun Z _ _ => by
      (try simp only [Act.put]); go_simp) ?_
     refine qaa (v := .agg #[.string b.name, .int .i64 b.sort]) rfl rfl rfl (fun _ _ _ h => h) trivial HXY.out (fun Z _ hZ => by
      obtain ⟨z0, z1, -⟩ := qaq hZ.2;clear hZ
      (try simp only [Act.put]); go_simp) ?_
     simp only [Act.put, List.setIfInBounds_toArray, List.set_cons_succ, List.set_cons_zero, List.getElem_toArray, List.getElem_cons_succ, List.getElem_cons_zero];refine qaa (v := .agg #[.string b.name, .int .i64 b.sort]) rfl rfl rfl (fun _ _ _ h => h) trivial HXY.out (fun Z _ hZ => by
      obtain ⟨z0, z1, -⟩ := qaq hZ.2;clear hZ
      (try simp only [Act.put]); go_simp) ?_
     refine qaa (v := .agg #[.string a.name, .int .i64 a.sort]) rfl rfl rfl (fun _ _ _ h => h) trivial HXY.out (fun Z _ hZ => by
      obtain ⟨z0, z1, -⟩ := qaq hZ.1;clear hZ
      (try simp only [Act.put]); go_simp) ?_
     simp only [Act.put, List.setIfInBounds_toArray, List.set_cons_succ, List.set_cons_zero, List.getElem_toArray, List.getElem_cons_succ, List.getElem_cons_zero];obtain ⟨N6, hrun6, hm6, ht6⟩ := HMD.out.m1.store (by unfold maxLen; omega) HKA.out.1 HKA.out.2.1 HKA.out.2.2 HH.out b ⟨HKB.out.1, HKB.out.2.1⟩;have hlD := HMD.out.lt;have hk6 : ∀ j, j < D.heap.size → j ≠ tb → N6.heap[j]? = D.heap[j]? := fun j hj hn => ht6.grown.block j hj (fun e => by injection e with e; exact hn e);have hXY6 : N6.heap[X]? = some (.cells #[.string a.name, .int .i64 a.sort] 66 (0, 0)) ∧ N6.heap[Y]? = some (.cells #[.string b.name, .int .i64 b.sort] 66 (0, 0)) :=
      ⟨(hk6 X (Array.getElem?_eq_some_iff.1 HXY.out.1).1 (by have := HXL.out; omega)).trans HXY.out.1, (hk6 Y (Array.getElem?_eq_some_iff.1 HXY.out.2).1 (by have := HXL.out; omega)).trans HXY.out.2⟩
     obtain ⟨N7, hrun7, hm7, ht7⟩ := (HMD.out.m2.keep (hk6 kb HMD.out.m2.lt hne.symm)).store (by unfold maxLen; omega) HKB.out.1 HKB.out.2.1 HKB.out.2.2 HH2.out a ⟨HKA.out.1, HKA.out.2.1⟩;have hs6 := ht6.grown.size;have hk7 : ∀ j, j < N6.heap.size → j ≠ kb → N7.heap[j]? = N6.heap[j]? := fun j hj hn => ht7.grown.block j hj (fun e => by injection e with e; exact hn e);have hXY7 : N7.heap[X]? = some (.cells #[.string a.name, .int .i64 a.sort] 66 (0, 0)) ∧ N7.heap[Y]? = some (.cells #[.string b.name, .int .i64 b.sort] 66 (0, 0)) :=
      ⟨(hk7 X (Array.getElem?_eq_some_iff.1 hXY6.1).1 (by have := HXL.out; omega)).trans hXY6.1, (hk7 Y (Array.getElem?_eq_some_iff.1 hXY6.2).1 (by have := HXL.out; omega)).trans hXY6.2⟩
     rw [← swB_snoc] at hm7;have HM7 := Lib.hid (HMD.out.turn hB hne htw hkw ht6 ht7 hm6 hm7);simp only [keyV] at hrun6 hrun7;have HXY6 := Lib.hid hXY6; have HXY7 := Lib.hid hXY7;clear hm6 ht6 hk6 hm7 ht7 hk7 hs6 hXY6 hXY7 HMD;refine qac rfl rfl (fun K hK => ?_);refine qdu (by rfl) 82 (.tmp 56) (.tmp 57) (.tmp 60) (by rfl) (by rfl) (by rfl) (by rfl) hrun6 ?_;refine hK _ _ ⟨⟨fun _ => trivial, HXY6.out⟩, ?_⟩;clear hK K hrun6;simp only [Act.put, List.setIfInBounds_toArray, List.set_cons_succ, List.set_cons_zero, List.getElem_toArray, List.getElem_cons_succ, List.getElem_cons_zero];refine qac rfl rfl (fun K hK => ?_);refine qdu (by rfl) 82 (.tmp 58) (.tmp 59) (.tmp 61) (by rfl) (by rfl) (by rfl) (by rfl) hrun7 ?_;refine hK _ _ ⟨⟨fun _ => trivial, HXY7.out⟩, qaj ?_⟩;clear hK K hrun7
     obtain ⟨a0, a1, a2, a3, -⟩ := qar a (HM7.out.b1);obtain ⟨b0, b1, b2, b3, -⟩ := qar b (HM7.out.b2);go_wp2_with fail
     go_ret
     rw [HR2.out];exact HM7.out.done (by omega) (by omega) _
end Go.Proofs.YtpjmdilpldaapaaGreatDoor
