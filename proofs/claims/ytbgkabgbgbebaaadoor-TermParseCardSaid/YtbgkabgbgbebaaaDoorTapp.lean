/- The parser's walk: an application. -/
import Derived.Test.YtbgkabgbgbebaaaDoorTatom
import Derived.Test.YtbgkabgbgbebaaaDoorMore
namespace Go.Proofs.YtbgkabgbgbebaaaDoor
open Go.RowKit Go.Sort

/-- one term behind a row, whatever its kids' blocks are -/
theorem RowT.grow1 {w : World} {base : Nat} {F : Nat → Prop} {v : Value} {its : List It} (hrow : RowT w base F v its) (hbase : base ≤ w.heap.size) (X : It) (B c : Nat) (fr : Nat × Nat) (hB : w.heap[B]? = some (.cells (X.1.cells X.2.1 X.2.2).toArray 24 fr))
    (hX : RepP w (fun b => F b ∧ b < w.heap.size ∧ v.ownBlock ≠ some b) X.1 X.2.1 X.2.2) (hlen : its.length + 1 ≤ 100000000) :
    ∃ g cap w', (∀ ty, (Builtin.append_ #[22, 22] ty #[v, .slice (some ⟨B, 0, none⟩) 1 c]).run Tryd.prog w = .ok (.slice (some ⟨g, 0, none⟩) (its.length + 1) cap) w') ∧
      RowT w' base F (.slice (some ⟨g, 0, none⟩) (its.length + 1) cap) (its ++ [X]) ∧ w.grownBy w' v.ownBlock ∧ base ≤ g := by
  obtain ⟨i0, hi0, hz0, hz1, hz2⟩ := info_parts termInfo
  obtain ⟨g, cap, w', h1, h2, h3, h4, _⟩ := run_append_lies (P := Tryd.prog) w 22 0 base 24 i0 _ 4 56 Tryd.underlying22 hi0 hz0 hz1 hz2 rfl (by omega) v its.length (itCells its) hrow.own ⟨B, 0, none⟩ 1 c (X.1.cells X.2.1 X.2.2) rfl
    (fun j u hu => World.news_of_block hB j u (by simpa using hu)) (fun u hu => itCells_one [X] u (by simpa [itCells] using hu)) (by omega) (by unfold maxLen; omega) (by omega) hbase w.heap.size rfl
  have hR := push_row hrow hX h2 h3 h4
  exact ⟨g, cap, w', fun ty => h1, hR, h3, (hR.lt g rfl).1⟩

def nextKid (n : Nat) (w : ByteArray) (acc : List Tm) : Option (Tm × List UInt8) → Option (Tm × List UInt8)
  | none => none
  | some (k, r) => pkids n w (acc ++ [k]) r
theorem pkids_next (n : Nat) (w : ByteArray) (acc : List Tm) (l : List UInt8) (h1 : Lib.hasPrefix l [41] = false) (h2 : acc = [] ∨ Lib.hasPrefix l [44, 32] = true) :
    pkids (n + 1) w acc l = nextKid n w acc (pterm n (if acc ≠ [] then l.drop 2 else l)) := by
  rw [pkids, if_neg (by rw [h1]; simp), if_neg (by rcases h2 with h | h <;> simp [h])]
  unfold nextKid
  rcases pterm n (if acc ≠ [] then l.drop 2 else l) with _ | ⟨k, r⟩ <;> rfl
theorem pkids_stop (n : Nat) (w : ByteArray) (acc : List Tm) (l : List UInt8) (h1 : Lib.hasPrefix l [41] = false) (h2 : acc ≠ []) (h3 : Lib.hasPrefix l [44, 32] = false) : pkids (n + 1) w acc l = none := by
  rw [pkids, if_neg (by rw [h1]; simp), if_pos ⟨h2, h3⟩]

set_option maxHeartbeats 4000000 in
set_option maxRecDepth 100000 in
theorem term_app (B pb : Nat) (hB : B ≤ pb) (s : ByteArray) (i n : Nat) (w : World) (hp : Prs pb s i w) (hw : Words B w) (hi : i ≤ s.size) (hs : s.size ≤ 1000000)
    (hv : Lib.hasPrefix (s.data.toList.drop i) [63] = false) (hgood : nameL ((s.data.toList.drop i).takeWhile partB) = true) (hpar : Lib.hasPrefix ((s.data.toList.drop i).drop (wlen (s.data.toList.drop i))) [40] = true)
    (ih : ∀ m, m ≤ n → ∀ i w, Prs pb s i w → Words B w → i ≤ s.size → 2 * (s.size - i) + 1 ≤ m → Calls Tryd.prog 64 #[.pointer (some ⟨pb, 0, none⟩)] w (Termed pb s i m w))
    (hfuel : 2 * (s.size - i) + 1 ≤ n + 1) :
    Calls Tryd.prog 64 #[.pointer (some ⟨pb, 0, none⟩)] w (Termed pb s i (n + 1) w) := by
  have hlt : pb < w.heap.size := (Array.getElem?_eq_some_iff.1 hp).1
  have hW : Below w.heap.size w (w.alloc (.cells #[.int .i64 0, .string ⟨#[]⟩, .int .i64 0, .slice none 0 0] 24)) := below1 (Nat.le_refl _) _
  have htk := take_any pb s ⟨#[63]⟩ i _ (hp.keep (hW.block pb hlt)) hi (by omega) (by decide)
  have hsl := size_list s
  rw [show (⟨#[63]⟩ : ByteArray).data.toList = [63] from rfl, hv] at htk
  have hpt : pterm (n + 1) (s.data.toList.drop i) = pkids n ⟨((s.data.toList.drop i).takeWhile partB).toArray⟩ [] (s.data.toList.drop (i + (wlen (s.data.toList.drop i) + 1))) := by
    rw [pterm, hv, if_neg (by simp only [Bool.false_eq_true, if_false]; rw [hgood]; simp), if_neg (by simp), if_neg (by rw [hpar]; simp), List.drop_drop, List.drop_drop]
  have hwl := wlen_pos hgood
  have HSL := Lib.hid hsl; clear hsl
  have HT := Lib.hid htk; clear htk hp
  have HW0 := Lib.hid (show Words B w from hw); clear hw
  have HG := Lib.hid hgood; clear hgood
  have HPT := Lib.hid hpt; clear hpt hv
  have HWL := Lib.hid hwl; clear hwl
  have HAT : Hid (∀ k, (h : k < s.size) → s[k] = s.data.toList[k]'(by rw [← size_list]; exact h)) := fun k h => rfl
  go_enter Tryd.func64, Tryd.ntmps64
  go_wp2_with fail
  refine HT.out.mono ?_
  rintro e w1 ⟨rfl, hm1, hp1⟩
  have hnm := name_any pb s i w1 hp1 hi (by omega)
  have HNM := Lib.hid hnm; clear hnm
  have HM0 := Lib.hid hm1
  have HM1 := Lib.hid ((Moves.of_below hW).trans hm1); clear hm1 hp1
  go_wp2_with fail
  refine HNM.out.mono ?_
  rintro e w2 ⟨x, rfl, hx, hxs, hm2, hp2, hi2⟩
  have hxb : nameL x.data.toList = true := by rw [hx]; exact HG.out
  have hbox : w2.heap[w.heap.size]? = some (.cells #[.int .i64 0, .string ⟨#[]⟩, .int .i64 0, .slice none 0 0] 24 (0, 0)) := by
    rw [hm2.same _ (by have := HM0.out.size; simp at this; omega) (by omega), HM0.out.same _ (by simp) (by omega)]
    exact heap_alloc_new _ _
  have hm02 := HM1.out.trans hm2
  have HX : Hid (pterm (n + 1) (s.data.toList.drop i) = pkids n x [] (s.data.toList.drop (i + wlen (s.data.toList.drop i) + 1))) := by
    rw [HPT.out, ← hx, ← bytes_of_list, Nat.add_assoc]; exact rfl
  have HMM := Lib.hid hm02; clear hx hm2
  rw [hxb]
  clear hxb
  have hwl' := HWL.out
  obtain ⟨i2, hi2e⟩ : ∃ i2, i2 = i + wlen (s.data.toList.drop i) := ⟨_, rfl⟩
  rw [List.drop_drop, ← hi2e] at hpar
  rw [← hi2e] at HX hp2 hi2
  have hii : i < i2 := by omega
  clear hi2e hwl'
  have hlt2 : w.heap.size < w2.heap.size := (Array.getElem?_eq_some_iff.1 hbox).1
  have HBX := Lib.hid hbox; clear hbox
  have htk2 := take_any pb s ⟨#[40]⟩ i2 w2 hp2 hi2 (by omega) (by decide)
  rw [show (⟨#[40]⟩ : ByteArray).data.toList = [40] from rfl, hpar] at htk2
  have hpar2 := hpar
  have HT2 := Lib.hid htk2; clear htk2 hp2 hpar
  go_wp2_with fail
  refine HT2.out.mono ?_
  rintro e w3 ⟨rfl, hm3, hp3⟩
  have hb3 : w3.heap[w.heap.size]? = _ := (hm3.same _ hlt2 (by omega)).trans HBX.out
  have hs3 := hm3.size
  have hi3 : i2 + 1 ≤ s.size := by
    have : s.data.toList.drop i2 ≠ [] := fun e => by rw [e] at hpar2; simp [Lib.hasPrefix] at hpar2
    have := List.length_pos_iff.2 this
    rw [List.length_drop, ← size_list] at this; omega
  clear hpar2
  -- the world with the application's own block
  obtain ⟨Z, hZ⟩ : ∃ Z, Z = w3.alloc (.cells #[.int .i64 3, .string x, .int .i64 0, .slice none 0 0] 24) := ⟨_, rfl⟩
  have hbz : Below w3.heap.size w3 Z := by rw [hZ]; exact below1 (Nat.le_refl _) _
  have hsz : Z.heap.size = w3.heap.size + 1 := by rw [hZ]; simp
  have hpz : Prs pb s (i2 + 1) Z := (show Prs pb s (i2 + 1) w3 from hp3).keep (hbz.block pb (Array.getElem?_eq_some_iff.1 hp3).1)
  have hmz : Moves pb w Z := (HMM.out.trans hm3).trans (Moves.of_below hbz)
  have hrz : Z.heap[w.heap.size]? = some (.cells #[.int .i64 0, .string ⟨#[]⟩, .int .i64 0, .slice none 0 0] 24 (0, 0)) := (hbz.block _ (by omega)).trans hb3
  have htz : Z.heap[w3.heap.size]? = some (.cells #[.int .i64 3, .string x, .int .i64 0, .slice none 0 0] 24 (0, 0)) := by rw [hZ]; exact heap_alloc_new _ _
  have HPZ := Lib.hid hpz; clear hpz hb3 hbz hm3 hp3
  have HMZ := Lib.hid hmz; clear hmz
  have HRZ := Lib.hid hrz; clear hrz
  have HTZ := Lib.hid htz; clear htz
  have IH := Lib.hid ih; clear ih
  obtain ⟨tb, htb⟩ : ∃ tb, tb = w3.heap.size := ⟨_, rfl⟩
  have hsz2 : Z.heap.size = tb + 1 := by omega
  have HSZ := Lib.hid hsz2; clear hsz hsz2
  rw [← htb] at HTZ
  have hwt : w.heap.size < tb := by omega
  have hne : tb ≠ w.heap.size := by omega
  have hptb : pb < tb := by omega
  go_wp2_with fail
  rw [← hZ, ← htb]
  clear hZ htb
  go_loopw [70] (fun _ wr => ∃ (m j : Nat) (v : Value) (its : List It), Hid (pkids m x (its.map (·.1)) (s.data.toList.drop j) = pterm (n + 1) (s.data.toList.drop i)) ∧ m ≤ n ∧ 2 * (s.size - j) + 2 ≤ m ∧ j ≤ s.size ∧ i < j ∧ Hid (Prs pb s j wr) ∧ Hid (Moves pb w wr) ∧
      Hid (wr.heap[w.heap.size]? = some (.cells #[.int .i64 0, .string ⟨#[]⟩, .int .i64 0, .slice none 0 0] 24 (0, 0))) ∧ Hid (wr.heap[tb]? = some (.cells #[.int .i64 3, .string x, .int .i64 0, v] 24 (0, 0))) ∧
      Hid (RowT wr (tb + 1) (fun b => tb + 1 ≤ b) v its) ∧ its.length ≤ j)
    (fun _ wr => s.size - (intOf ((wr.cell? ⟨pb, 1, none⟩).getD undef)).toNat)
  case atStart => exact ⟨n, i2 + 1, .slice none 0 0, [], HX.out.symm, Nat.le_refl _, by omega, hi3, by omega, HPZ.out, HMZ.out, HRZ.out, HTZ.out, RowT.nil _ _ _, by simp⟩
  case round =>
    obtain ⟨m, j, v, its, HK, hmn, hmf, hjs, hij, HP, HM, HRB, HTB, HR, hil⟩ := hrel
    obtain ⟨m', rfl⟩ : ∃ m', m = m' + 1 := ⟨m - 1, by omega⟩
    obtain ⟨Av, cv, rfl, _⟩ := HR.out.toS (P := fun _ => True) (fun _ _ _ => trivial) (fun _ _ _ => trivial)
    have hrsz : tb + 1 ≤ wr.heap.size := by have h1 := (Array.getElem?_eq_some_iff.1 HTB.out).1; omega
    have hrlt : w.heap.size < wr.heap.size := by omega
    have htk3 := take_any pb s ⟨#[41]⟩ j wr HP.out hjs (by omega) (by decide)
    rw [show (⟨#[41]⟩ : ByteArray).data.toList = [41] from rfl] at htk3
    cases hcl : Lib.hasPrefix (s.data.toList.drop j) [41] with
    | true =>
      rw [hcl] at htk3
      have HTK := Lib.hid htk3; clear htk3
      have HRES : Hid (pterm (n + 1) (s.data.toList.drop i) = some (.mk 3 x 0 (its.map (·.1)), s.data.toList.drop (j + 1))) := by
        rw [← HK.out, pkids, if_pos hcl, List.drop_drop]
        exact rfl
      go_wp2_with fail
      refine HTK.out.mono ?_
      rintro e w6 ⟨rfl, hm6, hp6⟩
      have hr6 : w6.heap[w.heap.size]? = _ := (hm6.same _ hrlt (by omega)).trans HRB.out
      have ht6 : w6.heap[tb]? = _ := (hm6.same _ (by omega) (by omega)).trans HTB.out
      obtain ⟨r0, r1, r2, r3, rf⟩ := box_at hr6
      obtain ⟨t0, t1, t2, t3, tf⟩ := box_at ht6
      obtain ⟨A1, c1, he, hS⟩ := HR.out.toS (P := fun b => tb + 1 ≤ b ∧ b < wr.heap.size) (fun b h h' => ⟨h, h'⟩) (fun b h h' => ⟨h, h'⟩)
      injection he with he1 he2 he3
      subst he1 he3
      have HS := Lib.hid hS; clear hS he2
      have HM6 := Lib.hid hm6; clear hm6 hr6 ht6
      have HP6 := Lib.hid (show Prs pb s (j + 1) w6 from hp6); clear hp6
      have hj1 : j + 1 ≤ s.size := by
        have : s.data.toList.drop j ≠ [] := fun e => by rw [e] at hcl; simp [Lib.hasPrefix] at hcl
        have := List.length_pos_iff.2 this
        rw [List.length_drop, ← size_list] at this; omega
      clear hcl
      go_wp2_with fail
      refine bodyPost_ret (v := .tuple #[.agg #[.int .i64 3, .string x, .int .i64 0, .slice Av its.length cv], .bool true]) ?_ rfl ?_
      · simp [results, Tryd.results64, go_sem, r0, r1, r2, r3]
      refine ⟨?_, ?_⟩
      · iterate 4 refine Moves.setNew ?_ (by exact Nat.le_refl _) _
        exact HM.out.trans HM6.out
      · rw [HRES.out]
        refine ⟨Av, cv, j + 1, by simp [Tm.val, Tm.kind, Tm.name, Tm.sort, Tm.kids], ?_, rfl, hj1, by omega, ?_⟩
        · rw [RepP_mk]
          have hs6 := HM6.out.size
          refine ⟨by unfold maxLen; omega, RepS.mono ?_ ?_ HS.out⟩
          · rintro b ⟨h1, h2⟩; exact ⟨by omega, by simp [World.setCell]; omega⟩
          · rintro q ⟨h1, h2⟩
            have hq : ∀ o, (⟨w.heap.size, o, none⟩ : Addr) ≠ q := fun o e => by rw [← e] at h1; simp at h1; omega
            rw [World.cell?_setCell_other _ _ _ _ (hq _), World.cell?_setCell_other _ _ _ _ (hq _), World.cell?_setCell_other _ _ _ _ (hq _), World.cell?_setCell_other _ _ _ _ (hq _)]
            exact World.cell?_of_block (HM6.out.same _ h2 (by omega))
        · refine HP6.out.keep ?_
          iterate 4 rw [Below.heap_setCell _ _ _ _ (by show pb ≠ w.heap.size; omega)]
    | false =>
      rw [hcl] at htk3
      have HTK := Lib.hid htk3; clear htk3
      by_cases hits : its = []
      · subst hits
        have HKK : Hid (nextKid m' x (([] : List It).map (·.1)) (pterm m' (s.data.toList.drop j)) = pterm (n + 1) (s.data.toList.drop i)) := by
          have h := HK.out; rw [List.map_nil, pkids_next _ _ _ _ hcl (.inl rfl), if_neg (by simp)] at h; exact h
        clear hcl
        go_wp2_with fail
        refine HTK.out.mono ?_
        rintro e w7 ⟨rfl, hm7, hp7⟩
        have hr7 : w7.heap[w.heap.size]? = _ := (hm7.same _ hrlt (by omega)).trans HRB.out
        have ht7 : w7.heap[tb]? = _ := (hm7.same _ (by omega) (by omega)).trans HTB.out
        obtain ⟨r0, r1, r2, r3, rf⟩ := box_at hr7
        obtain ⟨t0, t1, t2, t3, tf⟩ := box_at ht7
        clear hr7 ht7
        have HM7 := Lib.hid hm7; clear hm7
        have HP7 := Lib.hid (show Prs pb s j w7 from hp7); clear hp7
        obtain ⟨j1, hj1e⟩ : ∃ j1, j1 = j := ⟨_, rfl⟩
        rw [← hj1e] at HKK HP7
        have hj1 : j1 ≤ s.size := by omega
        have hjj1 : j ≤ j1 := by omega
        clear hj1e
        have hm7s := HM7.out.size
        have hw7 : Words B w7 := HW0.out.keep (fun b hb => (HM.out.trans HM7.out).same b (by omega) (by omega))
        have htm := IH.out m' (by omega) j1 w7 HP7.out hw7 hj1 (by omega)
        clear hw7
        unfold Termed at htm
        cases hpt : pterm m' (s.data.toList.drop j1) with
        | none =>
          rw [hpt] at htm HKK
          have HRES : Hid (pterm (n + 1) (s.data.toList.drop i) = none) := HKK.out.symm
          have HTM := Lib.hid htm; clear htm hpt
          go_wp2_with fail
          refine HTM.out.mono ?_
          rintro e w8 ⟨hm8, k, nm, so, A, l, c, rfl⟩
          have hr8 : w8.heap[w.heap.size]? = _ := ((HM7.out.trans hm8).same _ hrlt (by omega)).trans HRB.out
          have ht8 : w8.heap[tb]? = _ := ((HM7.out.trans hm8).same _ (by omega) (by omega)).trans HTB.out
          obtain ⟨r0, r1, r2, r3, rf⟩ := box_at hr8
          obtain ⟨t0, t1, t2, t3, tf⟩ := box_at ht8
          have hl1 := (Array.getElem?_eq_some_iff.1 hr8).1
          have hl2 := (Array.getElem?_eq_some_iff.1 ht8).1
          have HM8 := Lib.hid hm8; clear hm8 hr8 ht8
          go_wp2_with fail
          refine bodyPost_ret (v := .tuple #[.agg #[.int .i64 3, .string x, .int .i64 0, .slice Av 0 cv], .bool false]) ?_ rfl ?_
          · simp [results, Tryd.results64, go_sem, r0, r1, r2, r3, hl1]
          refine ⟨?_, ?_⟩
          · refine Moves.trans ?_ (Moves.of_below (below1 (Nat.le_refl _) _))
            iterate 4 refine Moves.setNew ?_ (by exact Nat.le_refl _) _
            exact (HM.out.trans HM7.out).trans HM8.out
          · rw [HRES.out]
            exact ⟨_, _, _, _, _, _, rfl⟩
        | some kr =>
          obtain ⟨k, r⟩ := kr
          rw [hpt] at htm HKK
          have HTM := Lib.hid htm; clear htm hpt
          go_wp2_with fail
          refine HTM.out.mono ?_
          rintro e w8 ⟨hm8, A8, c8, j8, rfl, hrep8, hd8, hj8, hjj8, hp8⟩
          have hr8 : w8.heap[w.heap.size]? = _ := ((HM7.out.trans hm8).same _ hrlt (by omega)).trans HRB.out
          have ht8 : w8.heap[tb]? = _ := ((HM7.out.trans hm8).same _ (by omega) (by omega)).trans HTB.out
          obtain ⟨t0, t1, t2, t3, tf⟩ := box_at ht8
          have hl1 := (Array.getElem?_eq_some_iff.1 hr8).1
          have hl2 := (Array.getElem?_eq_some_iff.1 ht8).1
          have hs8 := hm8.size
          have hrow8 : RowT w8 (tb + 1) (fun b => tb + 1 ≤ b) (.slice Av _ cv) _ := HR.out.keep (by omega) (fun b hb hF => (HM7.out.trans hm8).same b hb (by
            rcases hF with h | h
            · omega
            · have := (HR.out.lt b h).1; omega))
          have hown : ∀ b, (Value.slice Av _ cv).ownBlock = some b → b < wr.heap.size := fun b hb => (HR.out.lt b hb).2
          have hHK8 := HKK.out
          simp only [nextKid] at hHK8
          rw [← hd8] at hHK8
          have HK8 := Lib.hid hHK8; clear hHK8 hd8
          have HM8 := Lib.hid hm8; clear hm8
          have HR8 := Lib.hid hr8; clear hr8
          have HT8 := Lib.hid ht8; clear ht8
          have HP8 := Lib.hid hp8; clear hp8
          have HREP8 := Lib.hid hrep8; clear hrep8
          have HROW8 := Lib.hid hrow8; clear hrow8
          have hb10 : Below w8.heap.size w8 ((w8.alloc (.cells #[.int .i64 k.kind, .string k.name, .int .i64 k.sort, .slice A8 k.kids.length c8] 24)).alloc (.cells #[.int .i64 k.kind, .string k.name, .int .i64 k.sort, .slice A8 k.kids.length c8] 24)) :=
            (below1 (Nat.le_refl _) _).alloc (by simp) _
          have hsrc := heap_alloc_new (w8.alloc (.cells #[.int .i64 k.kind, .string k.name, .int .i64 k.sort, .slice A8 k.kids.length c8] 24)) (.cells #[.int .i64 k.kind, .string k.name, .int .i64 k.sort, .slice A8 k.kids.length c8] 24)
          rw [World.size_alloc] at hsrc
          obtain ⟨g, cap2, w9, hap, hrow9, hgr9, hbg9⟩ := (HROW8.out.below hb10).grow1 (by simp; omega) (k, A8, c8) (w8.heap.size + 1) 1 (0, 0) hsrc
            (RepP.mono (fun b ⟨h1, h2⟩ => ⟨by omega, by simp; omega, fun e => by have := hown b e; omega⟩) (fun q ⟨h1, h2⟩ => hb10.cell h2) _ _ _ HREP8.out) (by first | (simp; done) | (simp; omega) | omega)
          have hs9 : w8.heap.size + 2 ≤ w9.heap.size := by have := hgr9.size; simp at this; omega
          have hblk : ∀ b, b < tb + 1 → w9.heap[b]? = w8.heap[b]? := fun b hb => by
            rw [hgr9.block b (by simp; omega) (fun e => by have := (HROW8.out.lt b e.symm).1; omega)]
            exact hb10.block b (by omega)
          have ht9 : w9.heap[tb]? = _ := (hblk tb (by omega)).trans HT8.out
          obtain ⟨u0, u1, u2, u3', uf⟩ := box_at ht9
          have HT9 := Lib.hid ht9; clear ht9
          have hm9 : Moves pb w w9 := by
            have h := (HM.out.trans HM7.out).trans HM8.out
            exact ⟨by have := h.size; omega, fun b hb hne => (hblk b (by omega)).trans (h.same b hb hne), (hgr9.os.trans hb10.os).trans h.os, (hgr9.tape.trans hb10.tape).trans h.tape, (hgr9.output.trans hb10.output).trans h.output⟩
          have HM9 := Lib.hid hm9; clear hm9
          have HBLK := Lib.hid hblk; clear hblk
          have hrow9' := hrow9.setCell (p := ⟨tb, 3, none⟩) (by first | (simp; done) | (simp; omega)) (by show tb < tb + 1; omega) (.slice (some ⟨g, 0, none⟩) 1 cap2)
          have HROW9 := Lib.hid hrow9'; clear hrow9' hrow9 hgr9
          simp only [Tm.val]
          go_wp2_with (at_builtin; refine wpList_run_append rfl _ _ rfl rfl rfl hap ?_)
          go_roundw
          case rel =>
            refine ⟨m', j8, _, ([] : List It) ++ [(k, A8, c8)], (by rw [List.map_append]; exact HK8.out), by omega, by omega, hj8, by omega, ?_, ?_, ?_, heap_set3 HT9.out, HROW9.out, ?_⟩
            · refine HP8.out.keep ?_
              rw [Below.heap_setCell _ _ _ _ (by show pb ≠ tb; omega)]; exact HBLK.out pb (by omega)
            · refine Moves.setNew HM9.out (by show w.heap.size ≤ tb; omega) _
            · rw [Below.heap_setCell _ _ _ _ (by show w.heap.size ≠ tb; omega), HBLK.out _ (by omega)]; exact HR8.out
            · simp; omega
          case measure =>
            have h2 := HP.out.cells.2.1
            have h3 : (w9.setCell ⟨tb, 3, none⟩ (.slice (some ⟨g, 0, none⟩) 1 cap2)).cell? ⟨pb, 1, none⟩ = some (.int .i64 j8) := by
              rw [World.cell?_setCell_other _ _ _ _ (fun e => by injection e with e; omega), World.cell?_of_block (HBLK.out pb (by omega))]
              exact HP8.out.cells.2.1
            rw [h2, h3]
            simp [intOf]
            omega
      · have hpos : 0 < its.length := List.length_pos_iff.2 hits
        have hmne : its.map (·.1) ≠ [] := by simpa using hits
        have hdp : decide (0 < its.length) = true := decide_eq_true hpos
        go_wp2_with fail
        refine HTK.out.mono ?_
        rintro e w6 ⟨rfl, hm6, hp6⟩
        have hp6' : Prs pb s j w6 := hp6
        have htk4 := take_any pb s ⟨#[44, 32]⟩ j w6 hp6' hjs (by omega) (by decide)
        rw [show (⟨#[44, 32]⟩ : ByteArray).data.toList = [44, 32] from rfl] at htk4
        have hr6 : w6.heap[w.heap.size]? = _ := (hm6.same _ hrlt (by omega)).trans HRB.out
        have ht6 : w6.heap[tb]? = _ := (hm6.same _ (by omega) (by omega)).trans HTB.out
        obtain ⟨r0, r1, r2, r3, rf⟩ := box_at hr6
        obtain ⟨t0, t1, t2, t3, tf⟩ := box_at ht6
        have HM6 := Lib.hid hm6; clear hm6 hp6 hp6'
        have hs6 := HM6.out.size
        cases hcm : Lib.hasPrefix (s.data.toList.drop j) [44, 32] with
        | false =>
          rw [hcm] at htk4
          have HTK4 := Lib.hid htk4; clear htk4
          have HRES : Hid (pterm (n + 1) (s.data.toList.drop i) = none) := by rw [← HK.out]; exact pkids_stop _ _ _ _ hcl hmne hcm
          have HR6 := Lib.hid hr6; clear hr6
          have HT6 := Lib.hid ht6; clear ht6
          clear hcm hcl
          go_wp2_with fail
          refine HTK4.out.mono ?_
          rintro e w7 ⟨rfl, hm7, hp7⟩
          have hr7 : w7.heap[w.heap.size]? = _ := (hm7.same _ (by omega) (by omega)).trans HR6.out
          have ht7 : w7.heap[tb]? = _ := (hm7.same _ (by omega) (by omega)).trans HT6.out
          clear r0 r1 r2 r3 rf t0 t1 t2 t3 tf
          obtain ⟨r0, r1, r2, r3, rf⟩ := box_at hr7
          obtain ⟨t0, t1, t2, t3, tf⟩ := box_at ht7
          have HM7 := Lib.hid hm7; clear hm7 hp7 hr7 ht7
          go_wp2_with fail
          refine bodyPost_ret (v := .tuple #[.agg #[.int .i64 3, .string x, .int .i64 0, .slice Av its.length cv], .bool false]) ?_ rfl ?_
          · simp [results, Tryd.results64, go_sem, r0, r1, r2, r3]
          refine ⟨?_, ?_⟩
          · iterate 4 refine Moves.setNew ?_ (by exact Nat.le_refl _) _
            exact (HM.out.trans HM6.out).trans HM7.out
          · rw [HRES.out]
            exact ⟨_, _, _, _, _, _, rfl⟩
        | true =>
          rw [hcm] at htk4
          have HTK4 := Lib.hid htk4; clear htk4
          have HR6 := Lib.hid hr6; clear hr6
          have HT6 := Lib.hid ht6; clear ht6
          have HKK : Hid (nextKid m' x (its.map (·.1)) (pterm m' (s.data.toList.drop (j + 2))) = pterm (n + 1) (s.data.toList.drop i)) := by
            have h := HK.out; rw [pkids_next _ _ _ _ hcl (.inr hcm), if_pos hmne, List.drop_drop] at h; exact h
          have hj2 : j + 2 ≤ s.size := by
            have h : 2 ≤ (s.data.toList.drop j).length := by
              match s.data.toList.drop j, hcm with
              | [], h => simp [Lib.hasPrefix] at h
              | [_], h => simp [Lib.hasPrefix, List.isPrefixOf] at h
              | _ :: _ :: _, _ => simp
            rw [List.length_drop, ← size_list] at h; omega
          clear hcm hcl
          go_wp2_with fail
          refine HTK4.out.mono ?_
          rintro e w7 ⟨rfl, hm7, hp7⟩
          have hr7 : w7.heap[w.heap.size]? = _ := (hm7.same _ (by omega) (by omega)).trans HR6.out
          have ht7 : w7.heap[tb]? = _ := (hm7.same _ (by omega) (by omega)).trans HT6.out
          clear r0 r1 r2 r3 rf t0 t1 t2 t3 tf
          obtain ⟨r0, r1, r2, r3, rf⟩ := box_at hr7
          obtain ⟨t0, t1, t2, t3, tf⟩ := box_at ht7
          clear hr7 ht7
          have HM7 := Lib.hid (HM6.out.trans hm7); clear hm7
          have HP7 := Lib.hid (show Prs pb s (j + 2) w7 from hp7); clear hp7
          obtain ⟨j1, hj1e⟩ : ∃ j1, j1 = j + 2 := ⟨_, rfl⟩
          rw [← hj1e] at HKK HP7
          have hj1 : j1 ≤ s.size := by omega
          have hjj1 : j ≤ j1 := by omega
          clear hj1e hj2
          have hm7s := HM7.out.size
          have hw7 : Words B w7 := HW0.out.keep (fun b hb => (HM.out.trans HM7.out).same b (by omega) (by omega))
          have htm := IH.out m' (by omega) j1 w7 HP7.out hw7 hj1 (by omega)
          clear hw7
          unfold Termed at htm
          cases hpt : pterm m' (s.data.toList.drop j1) with
          | none =>
            rw [hpt] at htm HKK
            have HRES : Hid (pterm (n + 1) (s.data.toList.drop i) = none) := HKK.out.symm
            have HTM := Lib.hid htm; clear htm hpt
            go_wp2_with fail
            refine HTM.out.mono ?_
            rintro e w8 ⟨hm8, k, nm, so, A, l, c, rfl⟩
            have hr8 : w8.heap[w.heap.size]? = _ := ((HM7.out.trans hm8).same _ hrlt (by omega)).trans HRB.out
            have ht8 : w8.heap[tb]? = _ := ((HM7.out.trans hm8).same _ (by omega) (by omega)).trans HTB.out
            obtain ⟨r0, r1, r2, r3, rf⟩ := box_at hr8
            obtain ⟨t0, t1, t2, t3, tf⟩ := box_at ht8
            have hl1 := (Array.getElem?_eq_some_iff.1 hr8).1
            have hl2 := (Array.getElem?_eq_some_iff.1 ht8).1
            have HM8 := Lib.hid hm8; clear hm8 hr8 ht8
            go_wp2_with fail
            refine bodyPost_ret (v := .tuple #[.agg #[.int .i64 3, .string x, .int .i64 0, .slice Av its.length cv], .bool false]) ?_ rfl ?_
            · simp [results, Tryd.results64, go_sem, r0, r1, r2, r3, hl1]
            refine ⟨?_, ?_⟩
            · refine Moves.trans ?_ (Moves.of_below (below1 (Nat.le_refl _) _))
              iterate 4 refine Moves.setNew ?_ (by exact Nat.le_refl _) _
              exact (HM.out.trans HM7.out).trans HM8.out
            · rw [HRES.out]
              exact ⟨_, _, _, _, _, _, rfl⟩
          | some kr =>
            obtain ⟨k, r⟩ := kr
            rw [hpt] at htm HKK
            have HTM := Lib.hid htm; clear htm hpt
            go_wp2_with fail
            refine HTM.out.mono ?_
            rintro e w8 ⟨hm8, A8, c8, j8, rfl, hrep8, hd8, hj8, hjj8, hp8⟩
            have hr8 : w8.heap[w.heap.size]? = _ := ((HM7.out.trans hm8).same _ hrlt (by omega)).trans HRB.out
            have ht8 : w8.heap[tb]? = _ := ((HM7.out.trans hm8).same _ (by omega) (by omega)).trans HTB.out
            obtain ⟨t0, t1, t2, t3, tf⟩ := box_at ht8
            have hl1 := (Array.getElem?_eq_some_iff.1 hr8).1
            have hl2 := (Array.getElem?_eq_some_iff.1 ht8).1
            have hs8 := hm8.size
            have hrow8 : RowT w8 (tb + 1) (fun b => tb + 1 ≤ b) (.slice Av _ cv) _ := HR.out.keep (by omega) (fun b hb hF => (HM7.out.trans hm8).same b hb (by
              rcases hF with h | h
              · omega
              · have := (HR.out.lt b h).1; omega))
            have hown : ∀ b, (Value.slice Av _ cv).ownBlock = some b → b < wr.heap.size := fun b hb => (HR.out.lt b hb).2
            have hHK8 := HKK.out
            simp only [nextKid] at hHK8
            rw [← hd8] at hHK8
            have HK8 := Lib.hid hHK8; clear hHK8 hd8
            have HM8 := Lib.hid hm8; clear hm8
            have HR8 := Lib.hid hr8; clear hr8
            have HT8 := Lib.hid ht8; clear ht8
            have HP8 := Lib.hid hp8; clear hp8
            have HREP8 := Lib.hid hrep8; clear hrep8
            have HROW8 := Lib.hid hrow8; clear hrow8
            have hb10 : Below w8.heap.size w8 ((w8.alloc (.cells #[.int .i64 k.kind, .string k.name, .int .i64 k.sort, .slice A8 k.kids.length c8] 24)).alloc (.cells #[.int .i64 k.kind, .string k.name, .int .i64 k.sort, .slice A8 k.kids.length c8] 24)) :=
              (below1 (Nat.le_refl _) _).alloc (by simp) _
            have hsrc := heap_alloc_new (w8.alloc (.cells #[.int .i64 k.kind, .string k.name, .int .i64 k.sort, .slice A8 k.kids.length c8] 24)) (.cells #[.int .i64 k.kind, .string k.name, .int .i64 k.sort, .slice A8 k.kids.length c8] 24)
            rw [World.size_alloc] at hsrc
            obtain ⟨g, cap2, w9, hap, hrow9, hgr9, hbg9⟩ := (HROW8.out.below hb10).grow1 (by simp; omega) (k, A8, c8) (w8.heap.size + 1) 1 (0, 0) hsrc
              (RepP.mono (fun b ⟨h1, h2⟩ => ⟨by omega, by simp; omega, fun e => by have := hown b e; omega⟩) (fun q ⟨h1, h2⟩ => hb10.cell h2) _ _ _ HREP8.out) (by first | (simp; done) | (simp; omega) | omega)
            have hs9 : w8.heap.size + 2 ≤ w9.heap.size := by have := hgr9.size; simp at this; omega
            have hblk : ∀ b, b < tb + 1 → w9.heap[b]? = w8.heap[b]? := fun b hb => by
              rw [hgr9.block b (by simp; omega) (fun e => by have := (HROW8.out.lt b e.symm).1; omega)]
              exact hb10.block b (by omega)
            have ht9 : w9.heap[tb]? = _ := (hblk tb (by omega)).trans HT8.out
            obtain ⟨u0, u1, u2, u3', uf⟩ := box_at ht9
            have HT9 := Lib.hid ht9; clear ht9
            have hm9 : Moves pb w w9 := by
              have h := (HM.out.trans HM7.out).trans HM8.out
              exact ⟨by have := h.size; omega, fun b hb hne => (hblk b (by omega)).trans (h.same b hb hne), (hgr9.os.trans hb10.os).trans h.os, (hgr9.tape.trans hb10.tape).trans h.tape, (hgr9.output.trans hb10.output).trans h.output⟩
            have HM9 := Lib.hid hm9; clear hm9
            have HBLK := Lib.hid hblk; clear hblk
            have hrow9' := hrow9.setCell (p := ⟨tb, 3, none⟩) (by first | (simp; done) | (simp; omega)) (by show tb < tb + 1; omega) (.slice (some ⟨g, 0, none⟩) (its.length + 1) cap2)
            have HROW9 := Lib.hid hrow9'; clear hrow9' hrow9 hgr9
            simp only [Tm.val]
            go_wp2_with (at_builtin; refine wpList_run_append rfl _ _ rfl rfl rfl hap ?_)
            go_roundw
            case rel =>
              refine ⟨m', j8, _, its ++ [(k, A8, c8)], (by rw [List.map_append]; exact HK8.out), by omega, by omega, hj8, by omega, ?_, ?_, ?_, heap_set3 HT9.out, HROW9.out, ?_⟩
              · refine HP8.out.keep ?_
                rw [Below.heap_setCell _ _ _ _ (by show pb ≠ tb; omega)]; exact HBLK.out pb (by omega)
              · refine Moves.setNew HM9.out (by show w.heap.size ≤ tb; omega) _
              · rw [Below.heap_setCell _ _ _ _ (by show w.heap.size ≠ tb; omega), HBLK.out _ (by omega)]; exact HR8.out
              · simp; omega
            case measure =>
              have h2 := HP.out.cells.2.1
              have h3 : (w9.setCell ⟨tb, 3, none⟩ (.slice (some ⟨g, 0, none⟩) (its.length + 1) cap2)).cell? ⟨pb, 1, none⟩ = some (.int .i64 j8) := by
                rw [World.cell?_setCell_other _ _ _ _ (fun e => by injection e with e; omega), World.cell?_of_block (HBLK.out pb (by omega))]
                exact HP8.out.cells.2.1
              rw [h2, h3]
              simp [intOf]
              omega
end Go.Proofs.YtbgkabgbgbebaaaDoor
