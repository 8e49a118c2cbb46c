/- Casts: what the program and the reference compute, plain. -/
import Derived.Test.YtpjmdilpldaapaaDoorGb
import Derived.Test.YtpjmdilpldaapaaDoorGh
import Derived.Lib.SlicesS
namespace Go.Proofs.YtpjmdilpldaapaaDoor

def hashB (s : ByteArray) : Bool := s.data.toList.any (· == 35)
def posS (l : List ByteArray) (s : ByteArray) : Int := Lib.idxOfS l s
def hasS (l : List ByteArray) (s : ByteArray) : Bool := Lib.containsS l s
theorem hasS_iff (l : List ByteArray) (s : ByteArray) : hasS l s = true ↔ s ∈ l := Lib.containsS_iff l s
theorem hasS_false (l : List ByteArray) (s : ByteArray) : hasS l s = false ↔ s ∉ l := by rw [← hasS_iff, Bool.not_eq_true]
theorem hasS_pos (l : List ByteArray) (s : ByteArray) : hasS l s = decide (0 ≤ posS l s) := rfl
theorem posS_nonneg (l : List ByteArray) (s : ByteArray) : 0 ≤ posS l s ↔ s ∈ l := Lib.idxOfS_nonneg_iff l s
theorem idxFrom_bound (s : ByteArray) : ∀ (l : List ByteArray) (i : Nat), Lib.idxFromS l s i = -1 ∨ (i : Int) ≤ Lib.idxFromS l s i ∧ Lib.idxFromS l s i < i + l.length
  | [], i => .inl rfl
  | z :: r, i => by
    rw [Lib.idxFromS]
    split
    · right; simp; omega
    · rcases idxFrom_bound s r (i + 1) with h | ⟨h1, h2⟩
      · exact .inl h
      · right
        rw [List.length_cons]
        omega
theorem posS_bound (l : List ByteArray) (s : ByteArray) : posS l s = -1 ∨ 0 ≤ posS l s ∧ posS l s < l.length := by
  have := idxFrom_bound s l 0
  unfold posS Lib.idxOfS
  omega
theorem idxFrom_at : ∀ (l : List ByteArray) (i k : Nat) (h : k < l.length), l.Nodup → Lib.idxFromS l l[k] i = ((i + k : Nat) : Int)
  | [], _, _, h, _ => by simp at h
  | z :: r, i, 0, _, _ => by simp [Lib.idxFromS]
  | z :: r, i, k + 1, h, hn => by
    have hn' := List.nodup_cons.1 hn
    have hk : k < r.length := by simpa using h
    have hz : z ≠ r[k] := fun e => hn'.1 (by rw [e]; exact List.getElem_mem hk)
    rw [Lib.idxFromS, List.getElem_cons_succ, if_neg hz, idxFrom_at r (i + 1) k hk hn'.2]
    omega
theorem posS_at (l : List ByteArray) (k : Nat) (h : k < l.length) (hn : l.Nodup) : posS l l[k] = k := by
  have := idxFrom_at l 0 k h hn
  rw [Nat.zero_add] at this
  exact this

/-- the error of the agents behind those of pre -/
def agE : List ByteArray → List ByteArray → Int
  | _, [] => 0
  | pre, a :: r => if nameL a.data.toList = false ∨ hashB a = true then 2 else if hasS pre a = true then 5 else agE (pre ++ [a]) r
/-- the error of the bad ones -/
def badE (ags : List ByteArray) : Int → List ByteArray → Int
  | _, [] => 0
  | last, b :: r => if posS ags b < 0 then 4 else if posS ags b ≤ last then 5 else badE ags (posS ags b) r
def castE (ags bad : List ByteArray) : Int := if ags.length = 0 then 8 else if 6 < ags.length then 3 else if agE [] ags ≠ 0 then agE [] ags else badE ags (-1) bad

theorem agE_at (l : List ByteArray) (k : Nat) (h : k < l.length) : agE (l.take k) (l.drop k) =
    if nameL l[k].data.toList = false ∨ hashB l[k] = true then 2 else if hasS (l.take k) l[k] = true then 5 else agE (l.take (k + 1)) (l.drop (k + 1)) := by
  rw [List.drop_eq_getElem_cons h, agE, List.take_succ_eq_append_getElem h]
theorem badE_at (ags l : List ByteArray) (last : Int) (k : Nat) (h : k < l.length) : badE ags last (l.drop k) =
    if posS ags l[k] < 0 then 4 else if posS ags l[k] ≤ last then 5 else badE ags (posS ags l[k]) (l.drop (k + 1)) := by
  rw [List.drop_eq_getElem_cons h, badE]
theorem agE_zero : ∀ (r pre : List ByteArray), agE pre r = 0 → (∀ a ∈ r, nameL a.data.toList = true ∧ hashB a = false ∧ a ∉ pre) ∧ r.Nodup
  | [], _, _ => ⟨by simp, List.Pairwise.nil⟩
  | a :: r, pre, h => by
    rw [agE] at h
    split at h
    · cases h
    · rename_i h1
      split at h
      · cases h
      · rename_i h2
        obtain ⟨h3, h4⟩ := agE_zero r (pre ++ [a]) h
        have n1 : nameL a.data.toList = true := by
          cases e : nameL a.data.toList with
          | true => rfl
          | false => exact absurd (.inl e) h1
        have n2 : hashB a = false := by
          cases e : hashB a with
          | false => rfl
          | true => exact absurd (.inr e) h1
        refine ⟨fun x hx => ?_, List.nodup_cons.2 ⟨fun ha => (h3 a ha).2.2 (by simp), h4⟩⟩
        rcases List.mem_cons.1 hx with rfl | hx
        · exact ⟨n1, n2, fun hp => h2 ((hasS_iff _ _).2 hp)⟩
        · obtain ⟨k1, k2, k3⟩ := h3 x hx
          exact ⟨k1, k2, fun hp => k3 (by simp [hp])⟩
theorem badE_zero (ags : List ByteArray) : ∀ (r : List ByteArray) (last : Int), badE ags last r = 0 → ∀ b ∈ r, b ∈ ags
  | [], _, _ => by simp
  | b :: r, last, h => by
    rw [badE] at h
    split at h
    · cases h
    · rename_i h1
      split at h
      · cases h
      · intro x hx
        rcases List.mem_cons.1 hx with rfl | hx
        · exact (posS_nonneg _ _).1 (by omega)
        · exact badE_zero ags r _ h x hx
/-- what is known of a valid cast -/
structure Good (ags bad : List ByteArray) : Prop where
  pos : 0 < ags.length
  six : ags.length ≤ 6
  err : agE [] ags = 0
  names : ∀ a ∈ ags, nameL a.data.toList = true ∧ hashB a = false
  nodup : ags.Nodup
  sub : ∀ b ∈ bad, b ∈ ags
theorem good_of {ags bad : List ByteArray} (h : castE ags bad = 0) : Good ags bad := by
  unfold castE at h
  split at h
  · cases h
  · rename_i h0
    split at h
    · cases h
    · rename_i h1
      split at h
      · rename_i h2; exact absurd h h2
      · rename_i h2
        have h2' : agE [] ags = 0 := Classical.byContradiction h2
        obtain ⟨h3, h4⟩ := agE_zero ags [] h2'
        exact ⟨by omega, by omega, h2', fun a ha => ⟨(h3 a ha).1, (h3 a ha).2.1⟩, h4, badE_zero ags bad (-1) h⟩
theorem castE_of {ags bad : List ByteArray} (h0 : 0 < ags.length) (h6 : ags.length ≤ 6) (ha : agE [] ags = 0) : castE ags bad = badE ags (-1) bad := by
  unfold castE
  rw [if_neg (by omega), if_neg (by omega), if_neg (by rw [ha]; simp)]

/-- an honest agent -/
def honestC (ags bad : List ByteArray) (a : ByteArray) : Bool := decide (castE ags bad = 0) && hasS ags a && !hasS bad a

def agT (a : ByteArray) : Tm := .mk 2 a 1 []
def skT (a : ByteArray) : Tm := .mk 3 ⟨#[115, 107]⟩ 0 [agT a]
def pkT (a : ByteArray) : Tm := .mk 3 ⟨#[112, 107]⟩ 0 [skT a]
def shT (a b : ByteArray) : Tm := .mk 3 ⟨#[115, 104, 107]⟩ 0 [agT a, agT b]

theorem skT_inj {a b : ByteArray} : skT a = skT b ↔ a = b := by
  constructor
  · intro h; injection h with _ _ _ h; injection h with h; injection h
  · rintro rfl; rfl
theorem shT_inj {a b c d : ByteArray} : shT a b = shT c d ↔ a = c ∧ b = d := by
  constructor
  · intro h
    injection h with _ _ _ h
    injection h with h1 h2
    injection h2 with h2
    injection h1 with _ h1
    injection h2 with _ h2
    exact ⟨h1, h2⟩
  · rintro ⟨rfl, rfl⟩; rfl
theorem nm_ne {a b : ByteArray} (h : a.size ≠ b.size) : a ≠ b := fun e => h (by rw [e])
theorem sk_ne_pk (a b : ByteArray) : skT a ≠ pkT b := by
  intro h; injection h with _ h
  have := congrArg (fun x : ByteArray => x.data.toList) h
  simp at this
theorem sk_ne_sh (a b c : ByteArray) : skT a ≠ shT b c := by
  intro h; injection h with _ h
  exact nm_ne (by decide) h
theorem sh_ne_pk (a b c : ByteArray) : shT a b ≠ pkT c := by
  intro h; injection h with _ h
  exact nm_ne (by decide) h

def cellK (some : List ByteArray) (a b : ByteArray) : List Tm := if decide (a ≠ b) && (hasS some a || hasS some b) then [shT a b] else []
def rowK (ags some : List ByteArray) (a : ByteArray) : List Tm := (if hasS some a then [skT a] else []) ++ ags.flatMap (cellK some a)
/-- the keys that belong to some agents -/
def keysK (ags some l : List ByteArray) : List Tm := l.flatMap (rowK ags some)
def pubsK (l : List ByteArray) : List Tm := l.map pkT
theorem keysK_succ (ags some l : List ByteArray) (k : Nat) (h : k < l.length) : keysK ags some (l.take (k + 1)) = keysK ags some (l.take k) ++ rowK ags some l[k] := by
  unfold keysK
  rw [List.take_succ_eq_append_getElem h, List.flatMap_append]
  simp
theorem cells_succ (some l : List ByteArray) (a : ByteArray) (k : Nat) (h : k < l.length) : (l.take (k + 1)).flatMap (cellK some a) = (l.take k).flatMap (cellK some a) ++ cellK some a l[k] := by
  rw [List.take_succ_eq_append_getElem h, List.flatMap_append]
  simp
theorem pubsK_succ (l : List ByteArray) (k : Nat) (h : k < l.length) : pubsK (l.take (k + 1)) = pubsK (l.take k) ++ [pkT l[k]] := by
  unfold pubsK
  rw [List.take_succ_eq_append_getElem h, List.map_append]
  rfl
theorem cellK_length (some : List ByteArray) (a b : ByteArray) : (cellK some a b).length ≤ 1 := by unfold cellK; split <;> simp
theorem cells_length (some : List ByteArray) (a : ByteArray) : ∀ l : List ByteArray, (l.flatMap (cellK some a)).length ≤ l.length
  | [] => by simp
  | b :: r => by
    have h1 := cellK_length some a b
    have h2 := cells_length some a r
    rw [List.flatMap_cons, List.length_append, List.length_cons]; omega
theorem rowK_length (ags some : List ByteArray) (a : ByteArray) : (rowK ags some a).length ≤ 1 + ags.length := by
  unfold rowK
  have h := cells_length some a ags
  rw [List.length_append]
  have h2 : (if hasS some a = true then [skT a] else []).length ≤ 1 := by split <;> simp
  omega
theorem keysK_length (ags some : List ByteArray) : ∀ l : List ByteArray, (keysK ags some l).length ≤ l.length * (1 + ags.length)
  | [] => by simp [keysK]
  | a :: r => by
    have h1 := rowK_length ags some a
    have h2 := keysK_length ags some r
    unfold keysK at *
    rw [List.flatMap_cons, List.length_append, List.length_cons, Nat.add_mul]; omega
theorem mem_keysK (ags some l : List ByteArray) (t : Tm) : t ∈ keysK ags some l ↔ (∃ a ∈ l, a ∈ some ∧ t = skT a) ∨ ∃ a ∈ l, ∃ b ∈ ags, a ≠ b ∧ (a ∈ some ∨ b ∈ some) ∧ t = shT a b := by
  unfold keysK
  rw [List.mem_flatMap]
  constructor
  · rintro ⟨a, ha, h⟩
    unfold rowK at h
    rcases List.mem_append.1 h with h | h
    · split at h
      · rename_i hs
        exact .inl ⟨a, ha, (hasS_iff _ _).1 hs, by simpa using h⟩
      · simp at h
    · obtain ⟨b, hb, h⟩ := List.mem_flatMap.1 h
      unfold cellK at h
      split at h
      · rename_i hc
        rw [Bool.and_eq_true, decide_eq_true_eq, Bool.or_eq_true, hasS_iff, hasS_iff] at hc
        exact .inr ⟨a, ha, b, hb, hc.1, hc.2, by simpa using h⟩
      · simp at h
  · rintro (⟨a, ha, hs, rfl⟩ | ⟨a, ha, b, hb, hne, hs, rfl⟩)
    · refine ⟨a, ha, ?_⟩
      unfold rowK
      rw [if_pos ((hasS_iff _ _).2 hs)]
      simp
    · refine ⟨a, ha, ?_⟩
      unfold rowK
      refine List.mem_append_right _ (List.mem_flatMap.2 ⟨b, hb, ?_⟩)
      unfold cellK
      rw [if_pos (by rw [Bool.and_eq_true, decide_eq_true_eq, Bool.or_eq_true, hasS_iff, hasS_iff]; exact ⟨hne, hs⟩)]
      simp
/-- each of the keys is small -/
theorem keysK_small (ags some l : List ByteArray) : ∀ t ∈ keysK ags some l, t.size ≤ 3 := by
  intro t ht
  rcases (mem_keysK _ _ _ _).1 ht with ⟨a, _, _, rfl⟩ | ⟨a, _, b, _, _, _, rfl⟩
  · exact Nat.le_of_lt (by simp [skT, agT, Tm.size, Tm.sizes])
  · simp [shT, agT, Tm.size, Tm.sizes]
theorem pubsK_small (l : List ByteArray) : ∀ t ∈ pubsK l, t.size ≤ 3 := by
  intro t ht
  obtain ⟨a, _, rfl⟩ := List.mem_map.1 ht
  simp [pkT, skT, agT, Tm.size, Tm.sizes]

/-- what the environment knows, where some are bad -/
def initC (ags some : List ByteArray) : List Tm := Tm.set (keysK ags some ags ++ pubsK ags)
theorem initC_swap (ags some : List ByteArray) : Tm.set (pubsK ags ++ keysK ags some ags) = initC ags some :=
  Tm.set_eq (Tm.set_asc _) fun t => by rw [Tm.mem_set, List.mem_append, List.mem_append, Or.comm]
theorem mem_initC (ags some : List ByteArray) (t : Tm) : t ∈ initC ags some ↔ t ∈ keysK ags some ags ∨ ∃ a ∈ ags, t = pkT a := by
  unfold initC
  rw [Tm.mem_set, List.mem_append]
  unfold pubsK
  rw [List.mem_map]
  constructor
  · rintro (h | ⟨a, ha, rfl⟩)
    · exact .inl h
    · exact .inr ⟨a, ha, rfl⟩
  · rintro (h | ⟨a, ha, rfl⟩)
    · exact .inl h
    · exact .inr ⟨a, ha, rfl⟩
theorem initC_small (ags some : List ByteArray) : ∀ t ∈ initC ags some, t.size ≤ 3 := by
  intro t ht
  unfold initC at ht
  rw [Tm.mem_set, List.mem_append] at ht
  rcases ht with h | h
  · exact keysK_small _ _ _ t h
  · exact pubsK_small _ t h
def keysC (ags : List ByteArray) : List Tm := Tm.set (keysK ags ags ags)

/-- CastSecrets: a key is known just where one of its agents is bad. -/
theorem secrets_sk {ags bad : List ByteArray} {a : ByteArray} (ha : a ∈ ags) : skT a ∈ initC ags bad ↔ a ∈ bad := by
  rw [mem_initC, mem_keysK]
  constructor
  · rintro ((⟨b, _, hb, h⟩ | ⟨b, _, c, _, _, _, h⟩) | ⟨b, _, h⟩)
    · rw [skT_inj.1 h]; exact hb
    · exact absurd h (sk_ne_sh _ _ _)
    · exact absurd h (sk_ne_pk _ _)
  · intro h
    exact .inl (.inl ⟨a, ha, h, rfl⟩)
theorem secrets_sh {ags bad : List ByteArray} {a b : ByteArray} (ha : a ∈ ags) (hb : b ∈ ags) (hne : a ≠ b) : shT a b ∈ initC ags bad ↔ a ∈ bad ∨ b ∈ bad := by
  rw [mem_initC, mem_keysK]
  constructor
  · rintro ((⟨c, _, _, h⟩ | ⟨c, _, d, _, _, h1, h⟩) | ⟨c, _, h⟩)
    · exact absurd h.symm (sk_ne_sh _ _ _)
    · obtain ⟨rfl, rfl⟩ := shT_inj.1 h; exact h1
    · exact absurd h (sh_ne_pk _ _ _)
  · intro h
    exact .inl (.inr ⟨a, ha, b, hb, hne, h, rfl⟩)

/-- the bad ones, one more revealed -/
def revC (ags bad : List ByteArray) (a : ByteArray) : List ByteArray := ags.filter fun b => decide (b = a) || hasS bad b
theorem mem_revC (ags bad : List ByteArray) (a x : ByteArray) : x ∈ revC ags bad a ↔ x ∈ ags ∧ (x = a ∨ x ∈ bad) := by
  unfold revC
  rw [List.mem_filter, Bool.or_eq_true, decide_eq_true_eq, hasS_iff]
theorem badE_filter (ags : List ByteArray) (hn : ags.Nodup) (p : ByteArray → Bool) : ∀ (m k : Nat) (last : Int), ags.length - k = m → last < (k : Int) → badE ags last ((ags.drop k).filter p) = 0
  | 0, k, last, hm, _ => by rw [List.drop_eq_nil_of_le (by omega)]; rfl
  | m + 1, k, last, hm, hl => by
    have hk : k < ags.length := by omega
    rw [List.drop_eq_getElem_cons hk, List.filter_cons]
    split
    · rw [badE, posS_at ags k hk hn, if_neg (by omega), if_neg (by omega)]
      exact badE_filter ags hn p m (k + 1) _ (by omega) (by omega)
    · exact badE_filter ags hn p m (k + 1) _ (by omega) (by omega)
theorem rev_valid {ags bad : List ByteArray} (h : castE ags bad = 0) (a : ByteArray) : castE ags (revC ags bad a) = 0 := by
  have g := good_of h
  rw [castE_of g.pos g.six g.err]
  have := badE_filter ags g.nodup (fun b => decide (b = a) || hasS bad b) ags.length 0 (-1) (by omega) (by omega)
  rw [List.drop_zero] at this
  exact this
theorem one_valid {ags bad : List ByteArray} (h : castE ags bad = 0) (a : ByteArray) (ha : a ∈ ags) : castE ags [a] = 0 := by
  have g := good_of h
  rw [castE_of g.pos g.six g.err, badE, if_neg (by have := (posS_nonneg ags a).2 ha; omega), if_neg (by have := (posS_nonneg ags a).2 ha; omega), badE]
theorem rev_honest (ags bad : List ByteArray) (a : ByteArray) (ha : a ∈ ags) : honestC ags (revC ags bad a) a = false := by
  unfold honestC
  rw [(hasS_iff _ _).2 ((mem_revC ags bad a a).2 ⟨ha, .inl rfl⟩)]
  simp
theorem rev_mono {ags bad : List ByteArray} (h : castE ags bad = 0) (a : ByteArray) (t : Tm) (ht : t ∈ initC ags bad) : t ∈ initC ags (revC ags bad a) := by
  have g := good_of h
  rw [mem_initC, mem_keysK] at ht ⊢
  rcases ht with (⟨b, hb, hs, rfl⟩ | ⟨b, hb, c, hc, hne, hs, rfl⟩) | ⟨b, hb, rfl⟩
  · exact .inl (.inl ⟨b, hb, (mem_revC _ _ _ _).2 ⟨hb, .inr hs⟩, rfl⟩)
  · refine .inl (.inr ⟨b, hb, c, hc, hne, ?_, rfl⟩)
    rcases hs with hs | hs
    · exact .inl ((mem_revC _ _ _ _).2 ⟨hb, .inr hs⟩)
    · exact .inr ((mem_revC _ _ _ _).2 ⟨hc, .inr hs⟩)
  · exact .inr ⟨b, hb, rfl⟩
theorem rev_has {ags bad : List ByteArray} (a : ByteArray) (ha : a ∈ ags) : skT a ∈ initC ags (revC ags bad a) :=
  (secrets_sk ha).2 ((mem_revC _ _ _ _).2 ⟨ha, .inl rfl⟩)
theorem asc_nodup {l : List Tm} (h : Asc l) : l.Nodup := h.imp fun {a b} hab e => by subst e; rw [Tm.cmp_self] at hab; omega
theorem nodup_le {α : Type} : ∀ {l m : List α}, l.Nodup → (∀ x ∈ l, x ∈ m) → l.length ≤ m.length
  | [], _, _, _ => Nat.zero_le _
  | a :: l, m, h, hs => by
    obtain ⟨h1, h2⟩ := List.nodup_cons.1 h
    obtain ⟨s, t, rfl⟩ := List.append_of_mem (hs a (by simp))
    have := nodup_le (m := s ++ t) h2 fun x hx => by
      have h3 := hs x (List.mem_cons_of_mem _ hx)
      rw [List.mem_append, List.mem_cons] at h3
      rw [List.mem_append]
      rcases h3 with h3 | rfl | h3
      · exact .inl h3
      · exact absurd hx h1
      · exact .inr h3
    rw [List.length_append] at this
    rw [List.length_cons, List.length_append, List.length_cons]; omega
theorem rev_more {ags bad : List ByteArray} (h : castE ags bad = 0) (a : ByteArray) (ha : a ∈ ags) (hb : a ∉ bad) : (initC ags bad).length < (initC ags (revC ags bad a)).length := by
  have h1 : (skT a :: initC ags bad).Nodup := List.nodup_cons.2 ⟨fun hm => hb ((secrets_sk ha).1 hm), asc_nodup (Tm.set_asc _)⟩
  have h2 : ∀ t ∈ skT a :: initC ags bad, t ∈ initC ags (revC ags bad a) := by
    intro t ht
    rcases List.mem_cons.1 ht with rfl | ht
    · exact rev_has a ha
    · exact rev_mono h a t ht
  have := nodup_le h1 h2
  rw [List.length_cons] at this
  omega
end Go.Proofs.YtpjmdilpldaapaaDoor
