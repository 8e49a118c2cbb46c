/- The text of a term, and what the parser makes of it: plain Lean. -/
import Derived.Test.YtbgkabgbgbebaaaDoorParse
namespace Go.Proofs.YtbgkabgbgbebaaaDoor

/-- the word of a sort -/
def sortWord (s : Int) : List UInt8 := (wordList.getD s.toNat ByteArray.empty).data.toList
mutual
/-- the text of a term -/
def Tm.text : Tm → List UInt8
  | .mk k n s l =>
    if k = 1 then 63 :: (n.data.toList ++ (if s = 0 then [] else 58 :: sortWord s))
    else if k = 2 then n.data.toList ++ 58 :: sortWord s
    else n.data.toList ++ 40 :: (Tm.texts l ++ [41])
/-- the kids' texts, with what stands between them -/
def Tm.texts : List Tm → List UInt8
  | [] => []
  | t :: r => t.text ++ Tm.more r
def Tm.more : List Tm → List UInt8
  | [] => []
  | t :: r => 44 :: 32 :: (t.text ++ Tm.more r)
end
theorem Tm.more_snoc : ∀ (l : List Tm) (t : Tm), Tm.more (l ++ [t]) = Tm.more l ++ (44 :: 32 :: t.text)
  | [], t => by simp [Tm.more]
  | x :: l, t => by simp only [List.cons_append, Tm.more, Tm.more_snoc l t, List.append_assoc]
theorem Tm.texts_snoc (l : List Tm) (t : Tm) : Tm.texts (l ++ [t]) = Tm.texts l ++ ((if l = [] then [] else [44, 32]) ++ t.text) := by
  cases l with
  | nil => simp [Tm.texts, Tm.more]
  | cons x l => simp [Tm.texts, Tm.more_snoc]
theorem Tm.texts_take_succ (l : List Tm) (k : Nat) (h : k < l.length) : Tm.texts (l.take (k + 1)) = Tm.texts (l.take k) ++ ((if k = 0 then [] else [44, 32]) ++ l[k].text) := by
  rw [List.take_succ_eq_append_getElem h, Tm.texts_snoc]
  congr 2
  cases k with
  | zero => simp
  | succ k => rw [if_neg, if_neg (by omega)]; cases l with | nil => simp at h | cons => simp

/-- what a text cannot go on with -/
def Stops (r : List UInt8) : Prop := ∀ c r', r = c :: r' → partB c = false ∧ c ≠ 58
theorem stops_nil : Stops [] := fun _ _ h => by cases h
theorem stops_cons {c : UInt8} {r : List UInt8} (h : partB c = false ∧ c ≠ 58) : Stops (c :: r) := fun c' r' e => by injection e with e1 e2; subst e1; exact h
theorem takeWhile_stop {a r : List UInt8} (ha : ∀ b ∈ a, partB b = true) (hr : ∀ c r', r = c :: r' → partB c = false) : (a ++ r).takeWhile partB = a := by
  rw [List.takeWhile_append_of_pos ha]
  cases r with
  | nil => simp
  | cons c r => rw [List.takeWhile_cons_of_neg (by rw [hr c r rfl]; simp)]; simp
theorem nameL_parts {l : List UInt8} (h : nameL l = true) : l.length ≤ 24 ∧ (∀ b ∈ l, partB b = true) ∧ ∃ b r, l = b :: r ∧ startB b = true := by
  unfold nameL at h
  simp only [Bool.and_eq_true, decide_eq_true_eq, List.all_eq_true] at h
  obtain ⟨⟨h1, h2⟩, h3⟩ := h
  refine ⟨h1, h3, ?_⟩
  cases l with
  | nil => simp at h2
  | cons b r => exact ⟨b, r, rfl, h2⟩
theorem prefix_one (c : UInt8) (r : List UInt8) : Lib.hasPrefix (c :: r) [c] = true := by simp [Lib.hasPrefix]
theorem prefix_other {b c : UInt8} (h : c ≠ b) (r : List UInt8) : Lib.hasPrefix (b :: r) [c] = false := by
  show (c == b && List.isPrefixOf [] r) = false
  rw [beq_eq_false_iff_ne.2 h]; rfl
theorem name_no {l r : List UInt8} (h : nameL l = true) (c : UInt8) (hc : startB c = false) : Lib.hasPrefix (l ++ r) [c] = false := by
  obtain ⟨_, _, b, r', rfl, hb⟩ := nameL_parts h
  have : c ≠ b := fun e => by subst e; rw [hb] at hc; cases hc
  exact prefix_other this _
theorem six {P : Int → Prop} (h0 : P 0) (h1 : P 1) (h2 : P 2) (h3 : P 3) (h4 : P 4) (h5 : P 5) {s : Int} (hs : 0 ≤ s) (hs5 : s ≤ 5) : P s := by
  obtain h | h | h | h | h | h : s = 0 ∨ s = 1 ∨ s = 2 ∨ s = 3 ∨ s = 4 ∨ s = 5 := by omega
  all_goals (subst h; assumption)
theorem word_part {s : Int} (hs : 0 ≤ s) (hs5 : s ≤ 5) : ∀ b ∈ sortWord s, partB b = true :=
  six (P := fun s => ∀ b ∈ sortWord s, partB b = true) (by decide +kernel) (by decide +kernel) (by decide +kernel) (by decide +kernel) (by decide +kernel) (by decide +kernel) hs hs5
theorem sortOf_word {s : Int} (hs : 0 ≤ s) (hs5 : s ≤ 5) : sortOf (sortWord s) = s :=
  six (P := fun s => sortOf (sortWord s) = s) (by decide +kernel) (by decide +kernel) (by decide +kernel) (by decide +kernel) (by decide +kernel) (by decide +kernel) hs hs5
theorem word_of_sort {l : List UInt8} (h : 0 ≤ sortOf l) : sortOf l ≤ 5 ∧ sortWord (sortOf l) = l := by
  have hm : (⟨l.toArray⟩ : ByteArray) ∈ wordList := (Lib.idxOfS_nonneg_iff _ _).1 h
  have key : ∀ x ∈ wordList, sortOf x.data.toList ≤ 5 ∧ sortWord (sortOf x.data.toList) = x.data.toList := by decide +kernel
  exact key _ hm
theorem wlen_stop {a r : List UInt8} (ha : ∀ b ∈ a, partB b = true) (hr : ∀ c r', r = c :: r' → partB c = false) : wlen (a ++ r) = a.length := by unfold wlen; rw [takeWhile_stop ha hr]
theorem sorts_word {s least : Int} {r : List UInt8} (hs : 0 ≤ s) (hs5 : s ≤ 5) (hl : least ≤ s) (hr : ∀ c r', r = c :: r' → partB c = false) :
    sorts least (58 :: (sortWord s ++ r)) = (s, true, 1 + (sortWord s).length) := by
  rw [sorts_colon, takeWhile_stop (word_part hs hs5) hr, wlen_stop (word_part hs hs5) hr, sortOf_word hs hs5, decide_eq_true hl]
theorem stops_no {r : List UInt8} (h : Stops r) : Lib.hasPrefix r [58] = false := by
  cases r with
  | nil => rfl
  | cons c r => exact prefix_other (h c r rfl).2.symm r
theorem bytes_name (n : ByteArray) : (⟨n.data.toList.toArray⟩ : ByteArray) = n := (bytes_of_list n).symm

theorem pterm_var (n : Nat) (nm : ByteArray) (s : Int) (rest : List UInt8) (hn : nameL nm.data.toList = true) (hs : 0 ≤ s) (hs5 : s ≤ 5) (hr : Stops rest) :
    pterm (n + 1) ((Tm.mk 1 nm s []).text ++ rest) = some (.mk 1 nm s [], rest) := by
  obtain ⟨_, hp, _⟩ := nameL_parts hn
  have e : (Tm.mk 1 nm s []).text ++ rest = 63 :: (nm.data.toList ++ ((if s = 0 then [] else 58 :: sortWord s) ++ rest)) := by
    rw [Tm.text, if_pos rfl]; simp
  have ht : ∀ c r', (if s = 0 then [] else 58 :: sortWord s) ++ rest = c :: r' → partB c = false := by
    intro c r' h
    split at h
    · exact (hr c r' (by simpa using h)).1
    · injection h with h1 h2; subst h1; decide +kernel
  rw [e, pterm, prefix_one]
  simp only [if_true, List.drop_succ_cons, List.drop_zero]
  rw [takeWhile_stop hp ht, wlen_stop hp ht, hn, if_neg (by simp), bytes_name, List.drop_left]
  unfold pvar
  by_cases h0 : s = 0
  · subst h0
    simp only [if_true, List.nil_append]
    rw [stops_no hr, if_neg (by simp)]
  · rw [if_neg h0]
    have e2 : (58 :: sortWord s) ++ rest = 58 :: (sortWord s ++ rest) := rfl
    rw [e2, prefix_one, if_pos rfl, sorts_word hs hs5 (by omega) (fun c r' h => (hr c r' h).1)]
    simp only [if_true]
    rw [show 1 + (sortWord s).length = (sortWord s).length + 1 from by omega, List.drop_succ_cons, List.drop_left]
theorem pterm_atom (n : Nat) (nm : ByteArray) (s : Int) (rest : List UInt8) (hn : nameL nm.data.toList = true) (hs : 0 ≤ s) (hs5 : s ≤ 5) (hr : Stops rest) :
    pterm (n + 1) ((Tm.mk 2 nm s []).text ++ rest) = some (.mk 2 nm s [], rest) := by
  obtain ⟨_, hp, _⟩ := nameL_parts hn
  have e : (Tm.mk 2 nm s []).text ++ rest = nm.data.toList ++ (58 :: (sortWord s ++ rest)) := by
    rw [Tm.text, if_neg (by omega), if_pos rfl]; simp
  have ht : ∀ c r', 58 :: (sortWord s ++ rest) = c :: r' → partB c = false := by
    intro c r' h; injection h with h1 h2; subst h1; decide +kernel
  rw [e, pterm, name_no hn 63 (by decide +kernel)]
  simp only [Bool.false_eq_true, if_false]
  rw [takeWhile_stop hp ht, wlen_stop hp ht, hn, if_neg (by simp), bytes_name, List.drop_left, prefix_other (by decide), if_pos rfl]
  unfold patom
  rw [sorts_word hs hs5 hs (fun c r' h => (hr c r' h).1)]
  simp only [if_true]
  rw [show 1 + (sortWord s).length = (sortWord s).length + 1 from by omega, List.drop_succ_cons, List.drop_left]
theorem pterm_app (n : Nat) (nm : ByteArray) (x : List UInt8) (hn : nameL nm.data.toList = true) :
    pterm (n + 1) (nm.data.toList ++ 40 :: x) = pkids n nm [] x := by
  obtain ⟨_, hp, _⟩ := nameL_parts hn
  have ht : ∀ c r', (40 : UInt8) :: x = c :: r' → partB c = false := by
    intro c r' h; injection h with h1 h2; subst h1; decide +kernel
  rw [pterm, name_no hn 63 (by decide +kernel)]
  simp only [Bool.false_eq_true, if_false]
  rw [takeWhile_stop hp ht, wlen_stop hp ht, hn, if_neg (by simp), bytes_name, List.drop_left, prefix_one, if_neg (by simp)]
  rfl
theorem check_leaf {k s : Int} {n : ByteArray} {l : List Tm} (hk : k = 1 ∨ k = 2) (h : (Tm.mk k n s l).check = 0) : 0 ≤ s ∧ s ≤ 5 ∧ l = [] ∧ nameL n.data.toList = true := by
  rw [Tm.check, if_pos hk] at h
  split at h
  · omega
  · rename_i h1
    split at h
    · omega
    · rename_i h2
      refine ⟨by omega, by omega, ?_, by simpa using h2⟩
      exact Classical.byContradiction fun h3 => h1 (.inr (.inr h3))
theorem check_app3 {k s : Int} {n : ByteArray} {l : List Tm} (hk : ¬ (k = 1 ∨ k = 2)) (h : (Tm.mk k n s l).check = 0) : k = 3 ∧ s = 0 ∧ nameL n.data.toList = true ∧ Tm.checks l = 0 := by
  rw [Tm.check, if_neg hk] at h
  split at h
  · rename_i h3
    split at h
    · omega
    · split at h
      · omega
      · split at h
        · omega
        · rename_i h4 h5 h6
          exact ⟨h3, by omega, by simpa using h5, h⟩
  · omega
theorem text_head {t : Tm} (h : t.check = 0) : ∃ c r, t.text = c :: r ∧ c ≠ 41 := by
  obtain ⟨k, n, s, l⟩ := t
  have app : ∀ y, nameL n.data.toList = true → ∃ c r, n.data.toList ++ y = c :: r ∧ c ≠ 41 := fun y hn => by
    obtain ⟨_, _, b, r, e, hb⟩ := nameL_parts hn
    exact ⟨b, r ++ y, by rw [e]; rfl, fun e => by subst e; revert hb; decide +kernel⟩
  rw [Tm.text]
  by_cases h1 : k = 1
  · rw [if_pos h1]; exact ⟨63, _, rfl, by decide⟩
  · rw [if_neg h1]
    by_cases h2 : k = 2
    · rw [if_pos h2]; exact app _ (check_leaf (.inr h2) h).2.2.2
    · rw [if_neg h2]; exact app _ (check_app3 (by omega) h).2.2.1
theorem checks_cons {t : Tm} {r : List Tm} (h : Tm.checks (t :: r) = 0) : t.check = 0 ∧ Tm.checks r = 0 := by
  rw [Tm.checks] at h
  split at h
  · rename_i h1; exact absurd h h1
  · rename_i h1; exact ⟨by omega, h⟩
theorem more_stops (l : List Tm) (rest : List UInt8) : Stops (Tm.more l ++ 41 :: rest) := by
  cases l with
  | nil => rw [Tm.more]; exact stops_cons (by decide +kernel)
  | cons t r => rw [Tm.more]; exact stops_cons (by decide +kernel)
theorem prefix_two (a b : UInt8) (r : List UInt8) : Lib.hasPrefix (a :: b :: r) [a, b] = true := by simp [Lib.hasPrefix]

mutual
/-- The parser reads back what was written. -/
theorem pterm_text : ∀ (t : Tm) (n : Nat) (rest : List UInt8), t.check = 0 → 2 * t.text.length ≤ n → Stops rest → pterm n (t.text ++ rest) = some (t, rest)
  | .mk k nm s l, n, rest, h, hn, hr => by
    have hpos : 0 < (Tm.mk k nm s l).text.length := by
      obtain ⟨c, r, e, _⟩ := text_head h
      rw [e]; simp
    obtain ⟨m, rfl⟩ : ∃ m, n = m + 1 := ⟨n - 1, by omega⟩
    by_cases h1 : k = 1
    · obtain ⟨a, b, c, d⟩ := check_leaf (.inl h1) h
      subst h1 c
      exact pterm_var m nm s rest d a b hr
    · by_cases h2 : k = 2
      · obtain ⟨a, b, c, d⟩ := check_leaf (.inr h2) h
        subst h2 c
        exact pterm_atom m nm s rest d a b hr
      · obtain ⟨a, b, c, d⟩ := check_app3 (by omega) h
        subst a b
        have e : (Tm.mk 3 nm 0 l).text = nm.data.toList ++ 40 :: (Tm.texts l ++ [41]) := by rw [Tm.text, if_neg (by omega), if_neg (by omega)]
        rw [e] at hn ⊢
        have e2 : nm.data.toList ++ 40 :: (Tm.texts l ++ [41]) ++ rest = nm.data.toList ++ 40 :: (Tm.texts l ++ 41 :: rest) := by simp
        rw [e2, pterm_app m nm _ c]
        exact pkids_texts l m nm rest d (by simp only [List.length_append, List.length_cons] at hn; omega)
theorem pkids_texts : ∀ (l : List Tm) (n : Nat) (w : ByteArray) (rest : List UInt8), Tm.checks l = 0 → 2 * (Tm.texts l).length + 1 ≤ n → pkids n w [] (Tm.texts l ++ 41 :: rest) = some (.mk 3 w 0 l, rest)
  | [], n, w, rest, _, hn => by
    obtain ⟨m, rfl⟩ : ∃ m, n = m + 1 := ⟨n - 1, by omega⟩
    rw [Tm.texts, List.nil_append, pkids, prefix_one, if_pos rfl]; rfl
  | t :: r, n, w, rest, h, hn => by
    obtain ⟨ht, hr⟩ := checks_cons h
    obtain ⟨c, x, e, hc⟩ := text_head ht
    have hl : (Tm.texts (t :: r)).length = t.text.length + (Tm.more r).length := by rw [Tm.texts, List.length_append]
    have hp : 0 < t.text.length := by rw [e]; simp
    obtain ⟨m, rfl⟩ : ∃ m, n = m + 1 := ⟨n - 1, by omega⟩
    have h1 := pterm_text t m (Tm.more r ++ 41 :: rest) ht (by omega) (more_stops r rest)
    have h2 := pkids_more r m w [t] rest hr (by simp) (by omega)
    have hf : Lib.hasPrefix (Tm.texts (t :: r) ++ 41 :: rest) [41] = false := by rw [Tm.texts, e]; exact prefix_other hc.symm _
    rw [pkids, hf, if_neg (by simp), if_neg (by simp)]
    simp only [ne_eq, not_true, if_false]
    rw [Tm.texts, List.append_assoc, h1]
    exact h2
theorem pkids_more : ∀ (l : List Tm) (n : Nat) (w : ByteArray) (acc : List Tm) (rest : List UInt8), Tm.checks l = 0 → acc ≠ [] → 2 * (Tm.more l).length + 1 ≤ n → pkids n w acc (Tm.more l ++ 41 :: rest) = some (.mk 3 w 0 (acc ++ l), rest)
  | [], n, w, acc, rest, _, _, hn => by
    obtain ⟨m, rfl⟩ : ∃ m, n = m + 1 := ⟨n - 1, by omega⟩
    rw [Tm.more, List.nil_append, pkids, prefix_one, if_pos rfl, List.append_nil]; rfl
  | t :: r, n, w, acc, rest, h, ha, hn => by
    obtain ⟨ht, hr⟩ := checks_cons h
    have hl : (Tm.more (t :: r)).length = t.text.length + (Tm.more r).length + 2 := by rw [Tm.more]; simp
    obtain ⟨m, rfl⟩ : ∃ m, n = m + 1 := ⟨n - 1, by omega⟩
    have h1 := pterm_text t m (Tm.more r ++ 41 :: rest) ht (by omega) (more_stops r rest)
    have h2 := pkids_more r m w (acc ++ [t]) rest hr (by simp) (by omega)
    rw [pkids, Tm.more, List.cons_append, List.cons_append, prefix_other (by decide), if_neg (by simp), prefix_two, if_neg (by simp), if_pos ha]
    simp only [List.drop_succ_cons, List.drop_zero]
    rw [List.append_assoc, h1]
    simp only
    rw [h2]; simp
end
theorem parseE_text {t : Tm} (h : t.valid = 0) : parseE t.text = (t, 0) := by
  have hc : t.check = 0 := by
    unfold Tm.valid at h
    split at h
    · exact h
    · rename_i h1; omega
  have := pterm_text t (2 * t.text.length + 1) [] hc (by omega) stops_nil
  rw [List.append_nil] at this
  unfold parseE
  rw [this]
  exact if_pos h

theorem take_word (l : List UInt8) : l.takeWhile partB ++ l.drop (wlen l) = l := List.prefix_iff_eq_append.1 (List.takeWhile_prefix _)
theorem sorts_back {least : Int} (h0 : 0 ≤ least) {l : List UInt8} (h : (sorts least l).2.1 = true) :
    least ≤ (sorts least l).1 ∧ (58 :: sortWord (sorts least l).1) ++ l.drop (sorts least l).2.2 = l := by
  by_cases hc : Lib.hasPrefix l [58] = true
  · obtain ⟨r, rfl⟩ := prefix_colon hc
    rw [sorts_colon] at h ⊢
    have h1 : least ≤ sortOf (r.takeWhile partB) := by simpa using h
    refine ⟨h1, ?_⟩
    show (58 :: sortWord (sortOf (r.takeWhile partB))) ++ (58 :: r).drop (1 + wlen r) = 58 :: r
    rw [(word_of_sort (l := r.takeWhile partB) (by omega)).2, Nat.add_comm, List.drop_succ_cons, List.cons_append, take_word]
  · rw [sorts_no least l (by simpa using hc)] at h
    cases h
theorem prefix_cons {c : UInt8} {l : List UInt8} (h : Lib.hasPrefix l [c] = true) : c :: l.drop 1 = l := by
  cases l with
  | nil => simp [Lib.hasPrefix] at h
  | cons b r => simp [Lib.hasPrefix] at h; rw [h]; rfl
theorem prefix_cons2 {a c : UInt8} {l : List UInt8} (h : Lib.hasPrefix l [a, c] = true) : a :: c :: l.drop 2 = l := by
  cases l with
  | nil => simp [Lib.hasPrefix] at h
  | cons b r =>
    cases r with
    | nil => simp [Lib.hasPrefix] at h
    | cons d r => simp [Lib.hasPrefix] at h; rw [h.1, h.2]; rfl
theorem pvar_back {w : ByteArray} {l r : List UInt8} {t : Tm} (h : pvar w l = some (t, r)) : 63 :: (w.data.toList ++ l) = t.text ++ r := by
  unfold pvar at h
  by_cases hc : Lib.hasPrefix l [58] = true
  · rw [if_pos hc] at h
    by_cases hs : (sorts 1 l).2.1 = true
    · rw [if_pos hs] at h
      obtain ⟨h1, h2⟩ := sorts_back (by omega) hs
      injection h with h; injection h with h3 h4
      subst h3 h4
      rw [Tm.text, if_pos rfl, if_neg (by omega)]
      conv => lhs; rw [← h2]
      simp
    · rw [if_neg hs] at h; cases h
  · rw [if_neg hc] at h
    injection h with h; injection h with h3 h4
    subst h3 h4
    rw [Tm.text, if_pos rfl, if_pos rfl]; simp
theorem patom_back {w : ByteArray} {l r : List UInt8} {t : Tm} (h : patom w l = some (t, r)) : w.data.toList ++ l = t.text ++ r := by
  unfold patom at h
  by_cases hs : (sorts 0 l).2.1 = true
  · rw [if_pos hs] at h
    obtain ⟨h1, h2⟩ := sorts_back (by omega) hs
    injection h with h; injection h with h3 h4
    subst h3 h4
    rw [Tm.text, if_neg (by omega), if_pos rfl]
    conv => lhs; rw [← h2]
    simp
  · rw [if_neg hs] at h; cases h
/-- What the parser reads is the text of what it makes. -/
theorem ptext : ∀ n, (∀ l t r, pterm n l = some (t, r) → l = t.text ++ r) ∧ (∀ w acc l t r, pkids n w acc l = some (t, r) → ∃ k, t = .mk 3 w 0 (acc ++ k) ∧ l = (if acc = [] then Tm.texts k else Tm.more k) ++ 41 :: r)
  | 0 => ⟨fun l t r h => by simp [pterm] at h, fun w acc l t r h => by simp [pkids] at h⟩
  | n + 1 => by
    obtain ⟨ih1, ih2⟩ := ptext n
    constructor
    · intro l t r h
      rw [pterm] at h
      by_cases hv : Lib.hasPrefix l [63] = true
      · rw [if_pos hv] at h
        by_cases hn : nameL ((l.drop 1).takeWhile partB) = false
        · rw [if_pos hn] at h; cases h
        · rw [if_neg hn, if_pos hv] at h
          have := pvar_back h
          rw [← this]
          show l = 63 :: ((l.drop 1).takeWhile partB ++ (l.drop 1).drop (wlen (l.drop 1)))
          rw [take_word, prefix_cons hv]
      · rw [if_neg hv] at h
        by_cases hn : nameL (l.takeWhile partB) = false
        · rw [if_pos hn] at h; cases h
        · rw [if_neg hn, if_neg hv] at h
          by_cases hp : Lib.hasPrefix (l.drop (wlen l)) [40] = false
          · rw [if_pos hp] at h
            rw [← patom_back h]
            exact (take_word l).symm
          · rw [if_neg hp] at h
            obtain ⟨k, rfl, h2⟩ := ih2 _ _ _ _ _ h
            rw [if_pos rfl] at h2
            rw [List.nil_append, Tm.text, if_neg (by omega), if_neg (by omega)]
            show l = l.takeWhile partB ++ 40 :: (Tm.texts k ++ [41]) ++ r
            have h3 : 40 :: (l.drop (wlen l)).drop 1 = l.drop (wlen l) := prefix_cons (by simpa using hp)
            conv => lhs; rw [← take_word l, ← h3, h2]
            simp
    · intro w acc l t r h
      rw [pkids] at h
      by_cases h1 : Lib.hasPrefix l [41] = true
      · rw [if_pos h1] at h
        injection h with h; injection h with h3 h4
        subst h3 h4
        refine ⟨[], by simp, ?_⟩
        rw [prefix_cons h1]; split <;> simp [Tm.texts, Tm.more]
      · rw [if_neg h1] at h
        by_cases h2 : acc ≠ [] ∧ Lib.hasPrefix l [44, 32] = false
        · rw [if_pos h2] at h; cases h
        · rw [if_neg h2] at h
          split at h
          · cases h
          · rename_i k r' hk
            obtain ⟨m, rfl, h4⟩ := ih2 _ _ _ _ _ h
            rw [if_neg (by simp)] at h4
            have h5 := ih1 _ _ _ hk
            refine ⟨k :: m, by simp, ?_⟩
            by_cases ha : acc = []
            · rw [if_pos ha, Tm.texts]
              rw [if_neg (by simpa using ha)] at h5
              rw [h5, h4]; simp
            · rw [if_neg ha, Tm.more]
              rw [if_pos ha] at h5
              have h6 : Lib.hasPrefix l [44, 32] = true := by
                cases e : Lib.hasPrefix l [44, 32] with
                | true => rfl
                | false => exact absurd ⟨ha, e⟩ h2
              have h7 := prefix_cons2 h6
              rw [← h7, h5, h4]; simp
theorem text_parseE {l : List UInt8} (h : (parseE l).2 = 0) : (parseE l).1.valid = 0 ∧ (parseE l).1.text = l := by
  unfold parseE at h ⊢
  split at h
  · rename_i t hp
    split at h
    · rename_i hv
      rw [if_pos hv]
      have := (ptext _).1 _ _ _ hp
      rw [List.append_nil] at this
      exact ⟨hv, this.symm⟩
    · rename_i hv; exact absurd h hv
  · cases h
end Go.Proofs.YtbgkabgbgbebaaaDoor
