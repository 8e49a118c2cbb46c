/- The base texts Text, Builder, Write, Rtext in one. -/
import Derived.Test.YtipmibjhlpnhjaaGreatDoorGd
import Derived.Lib.FrozenHead2
import Derived.Lib.OthersKept
import Derived.Test.YtipmibjhlpnhjaaGreatDoorGa
import Derived.Lib.Hide
import Derived.Test.YtipmibjhlpnhjaaGreatDoorShl
import Derived.StillTailTactics
import Derived.Shelf.SlSortCmp.QuietGrown
import Derived.Test.YtipmibjhlpnhjaaGreatDoorGe
namespace Go.Proofs.YtipmibjhlpnhjaaGreatDoor
/-- the word of a sort -/
def sortWord (s : Int) : List UInt8 := (wordList.getD s.toNat ByteArray.empty).data.toList
mutual
/-- the text of a term -/
def Tm.text : Tm → List UInt8
  | .mk k n s l =>
    if k = 1 then 63 :: (n.data.toList ++ (if s = 0 then [] else 58 :: sortWord s))
    else if k = 2 then n.data.toList ++ 58 :: sortWord s
    else n.data.toList ++ 40 :: (Tm.texts l ++ [41])
/-- the kids' texts, with what stands between them -/
def Tm.texts : List Tm → List UInt8
  | [] => []
  | t :: r => t.text ++ Tm.more r
def Tm.more : List Tm → List UInt8
  | [] => []
  | t :: r => 44 :: 32 :: (t.text ++ Tm.more r)
end
theorem Tm.more_snoc : ∀ (l : List Tm) (t : Tm), Tm.more (l ++ [t]) = Tm.more l ++ (44 :: 32 :: t.text)
  | [], t => by simp [Tm.more]
  | x :: l, t => by simp only [List.cons_append, Tm.more, Tm.more_snoc l t, List.append_assoc]
theorem Tm.texts_snoc (l : List Tm) (t : Tm) : Tm.texts (l ++ [t]) = Tm.texts l ++ ((if l = [] then [] else [44, 32]) ++ t.text) := by
  cases l with
  | nil => simp [Tm.texts, Tm.more]
  | cons x l => simp [Tm.texts, Tm.more_snoc]
theorem Tm.texts_take_succ (l : List Tm) (k : Nat) (h : k < l.length) : Tm.texts (l.take (k + 1)) = Tm.texts (l.take k) ++ ((if k = 0 then [] else [44, 32]) ++ l[k].text) := by
  rw [List.take_succ_eq_append_getElem h, Tm.texts_snoc]
  congr 2
  cases k with
  | zero => simp
  | succ k => rw [if_neg, if_neg (by omega)]; cases l with | nil => simp at h | cons => simp

/-- what a text cannot go on with -/
def Stops (r : List UInt8) : Prop := ∀ c r', r = c :: r' → partB c = false ∧ c ≠ 58
theorem stops_nil : Stops [] := fun _ _ h => by cases h
theorem stops_cons {c : UInt8} {r : List UInt8} (h : partB c = false ∧ c ≠ 58) : Stops (c :: r) := fun c' r' e => by injection e with e1 e2; subst e1; exact h
theorem takeWhile_stop {a r : List UInt8} (ha : ∀ b ∈ a, partB b = true) (hr : ∀ c r', r = c :: r' → partB c = false) : (a ++ r).takeWhile partB = a := by
  rw [List.takeWhile_append_of_pos ha]
  cases r with
  | nil => simp
  | cons c r => rw [List.takeWhile_cons_of_neg (by rw [hr c r rfl]; simp)]; simp
theorem nameL_parts {l : List UInt8} (h : nameL l = true) : l.length ≤ 24 ∧ (∀ b ∈ l, partB b = true) ∧ ∃ b r, l = b :: r ∧ startB b = true := by
  unfold nameL at h
  simp only [Bool.and_eq_true, decide_eq_true_eq, List.all_eq_true] at h
  obtain ⟨⟨h1, h2⟩, h3⟩ := h
  refine ⟨h1, h3, ?_⟩
  cases l with
  | nil => simp at h2
  | cons b r => exact ⟨b, r, rfl, h2⟩
theorem prefix_one (c : UInt8) (r : List UInt8) : Lib.hasPrefix (c :: r) [c] = true := by simp [Lib.hasPrefix]
theorem prefix_other {b c : UInt8} (h : c ≠ b) (r : List UInt8) : Lib.hasPrefix (b :: r) [c] = false := by
  show (c == b && List.isPrefixOf [] r) = false
  rw [beq_eq_false_iff_ne.2 h]; rfl
theorem name_no {l r : List UInt8} (h : nameL l = true) (c : UInt8) (hc : startB c = false) : Lib.hasPrefix (l ++ r) [c] = false := by
  obtain ⟨_, _, b, r', rfl, hb⟩ := nameL_parts h
  have : c ≠ b := fun e => by subst e; rw [hb] at hc; cases hc
  exact prefix_other this _
theorem six {P : Int → Prop} (h0 : P 0) (h1 : P 1) (h2 : P 2) (h3 : P 3) (h4 : P 4) (h5 : P 5) {s : Int} (hs : 0 ≤ s) (hs5 : s ≤ 5) : P s := by
  obtain h | h | h | h | h | h : s = 0 ∨ s = 1 ∨ s = 2 ∨ s = 3 ∨ s = 4 ∨ s = 5 := by omega
  all_goals (subst h; assumption)
theorem word_part {s : Int} (hs : 0 ≤ s) (hs5 : s ≤ 5) : ∀ b ∈ sortWord s, partB b = true :=
  six (P := fun s => ∀ b ∈ sortWord s, partB b = true) (by decide +kernel) (by decide +kernel) (by decide +kernel) (by decide +kernel) (by decide +kernel) (by decide +kernel) hs hs5
theorem sortOf_word {s : Int} (hs : 0 ≤ s) (hs5 : s ≤ 5) : sortOf (sortWord s) = s :=
  six (P := fun s => sortOf (sortWord s) = s) (by decide +kernel) (by decide +kernel) (by decide +kernel) (by decide +kernel) (by decide +kernel) (by decide +kernel) hs hs5
theorem word_of_sort {l : List UInt8} (h : 0 ≤ sortOf l) : sortOf l ≤ 5 ∧ sortWord (sortOf l) = l := by
  have hm : (⟨l.toArray⟩ : ByteArray) ∈ wordList := (Lib.idxOfS_nonneg_iff _ _).1 h
  have key : ∀ x ∈ wordList, sortOf x.data.toList ≤ 5 ∧ sortWord (sortOf x.data.toList) = x.data.toList := by decide +kernel
  exact key _ hm
theorem wlen_stop {a r : List UInt8} (ha : ∀ b ∈ a, partB b = true) (hr : ∀ c r', r = c :: r' → partB c = false) : wlen (a ++ r) = a.length := by unfold wlen; rw [takeWhile_stop ha hr]
theorem sorts_word {s least : Int} {r : List UInt8} (hs : 0 ≤ s) (hs5 : s ≤ 5) (hl : least ≤ s) (hr : ∀ c r', r = c :: r' → partB c = false) :
    sorts least (58 :: (sortWord s ++ r)) = (s, true, 1 + (sortWord s).length) := by
  rw [sorts_colon, takeWhile_stop (word_part hs hs5) hr, wlen_stop (word_part hs hs5) hr, sortOf_word hs hs5, decide_eq_true hl]
theorem stops_no {r : List UInt8} (h : Stops r) : Lib.hasPrefix r [58] = false := by
  cases r with
  | nil => rfl
  | cons c r => exact prefix_other (h c r rfl).2.symm r
theorem bytes_name (n : ByteArray) : (⟨n.data.toList.toArray⟩ : ByteArray) = n := (bytes_of_list n).symm

theorem pterm_var (n : Nat) (nm : ByteArray) (s : Int) (rest : List UInt8) (hn : nameL nm.data.toList = true) (hs : 0 ≤ s) (hs5 : s ≤ 5) (hr : Stops rest) :
    pterm (n + 1) ((Tm.mk 1 nm s []).text ++ rest) = some (.mk 1 nm s [], rest) := by
  obtain ⟨_, hp, _⟩ := nameL_parts hn
  have e : (Tm.mk 1 nm s []).text ++ rest = 63 :: (nm.data.toList ++ ((if s = 0 then [] else 58 :: sortWord s) ++ rest)) := by
    rw [Tm.text, if_pos rfl]; simp
  have ht : ∀ c r', (if s = 0 then [] else 58 :: sortWord s) ++ rest = c :: r' → partB c = false := by
    intro c r' h
    split at h
    · exact (hr c r' (by simpa using h)).1
    · injection h with h1 h2; subst h1; decide +kernel
  rw [e, pterm, prefix_one]
  simp only [if_true, List.drop_succ_cons, List.drop_zero]
  rw [takeWhile_stop hp ht, wlen_stop hp ht, hn, if_neg (by simp), bytes_name, List.drop_left]
  unfold pvar
  by_cases h0 : s = 0
  · subst h0
    simp only [if_true, List.nil_append]
    rw [stops_no hr, if_neg (by simp)]
  · rw [if_neg h0]
    have e2 : (58 :: sortWord s) ++ rest = 58 :: (sortWord s ++ rest) := rfl
    rw [e2, prefix_one, if_pos rfl, sorts_word hs hs5 (by omega) (fun c r' h => (hr c r' h).1)]
    simp only [if_true]
    rw [show 1 + (sortWord s).length = (sortWord s).length + 1 from by omega, List.drop_succ_cons, List.drop_left]
theorem pterm_atom (n : Nat) (nm : ByteArray) (s : Int) (rest : List UInt8) (hn : nameL nm.data.toList = true) (hs : 0 ≤ s) (hs5 : s ≤ 5) (hr : Stops rest) :
    pterm (n + 1) ((Tm.mk 2 nm s []).text ++ rest) = some (.mk 2 nm s [], rest) := by
  obtain ⟨_, hp, _⟩ := nameL_parts hn
  have e : (Tm.mk 2 nm s []).text ++ rest = nm.data.toList ++ (58 :: (sortWord s ++ rest)) := by
    rw [Tm.text, if_neg (by omega), if_pos rfl]; simp
  have ht : ∀ c r', 58 :: (sortWord s ++ rest) = c :: r' → partB c = false := by
    intro c r' h; injection h with h1 h2; subst h1; decide +kernel
  rw [e, pterm, name_no hn 63 (by decide +kernel)]
  simp only [Bool.false_eq_true, if_false]
  rw [takeWhile_stop hp ht, wlen_stop hp ht, hn, if_neg (by simp), bytes_name, List.drop_left, prefix_other (by decide), if_pos rfl]
  unfold patom
  rw [sorts_word hs hs5 hs (fun c r' h => (hr c r' h).1)]
  simp only [if_true]
  rw [show 1 + (sortWord s).length = (sortWord s).length + 1 from by omega, List.drop_succ_cons, List.drop_left]
theorem pterm_app (n : Nat) (nm : ByteArray) (x : List UInt8) (hn : nameL nm.data.toList = true) :
    pterm (n + 1) (nm.data.toList ++ 40 :: x) = pkids n nm [] x := by
  obtain ⟨_, hp, _⟩ := nameL_parts hn
  have ht : ∀ c r', (40 : UInt8) :: x = c :: r' → partB c = false := by
    intro c r' h; injection h with h1 h2; subst h1; decide +kernel
  rw [pterm, name_no hn 63 (by decide +kernel)]
  simp only [Bool.false_eq_true, if_false]
  rw [takeWhile_stop hp ht, wlen_stop hp ht, hn, if_neg (by simp), bytes_name, List.drop_left, prefix_one, if_neg (by simp)]
  rfl
theorem check_leaf {k s : Int} {n : ByteArray} {l : List Tm} (hk : k = 1 ∨ k = 2) (h : (Tm.mk k n s l).check = 0) : 0 ≤ s ∧ s ≤ 5 ∧ l = [] ∧ nameL n.data.toList = true := by
  rw [Tm.check, if_pos hk] at h
  split at h
  · omega
  · rename_i h1
    split at h
    · omega
    · rename_i h2
      refine ⟨by omega, by omega, ?_, by simpa using h2⟩
      exact Classical.byContradiction fun h3 => h1 (.inr (.inr h3))
theorem check_app3 {k s : Int} {n : ByteArray} {l : List Tm} (hk : ¬ (k = 1 ∨ k = 2)) (h : (Tm.mk k n s l).check = 0) : k = 3 ∧ s = 0 ∧ nameL n.data.toList = true ∧ Tm.checks l = 0 := by
  rw [Tm.check, if_neg hk] at h
  split at h
  · rename_i h3
    split at h
    · omega
    · split at h
      · omega
      · split at h
        · omega
        · rename_i h4 h5 h6
          exact ⟨h3, by omega, by simpa using h5, h⟩
  · omega
theorem text_head {t : Tm} (h : t.check = 0) : ∃ c r, t.text = c :: r ∧ c ≠ 41 := by
  obtain ⟨k, n, s, l⟩ := t
  have app : ∀ y, nameL n.data.toList = true → ∃ c r, n.data.toList ++ y = c :: r ∧ c ≠ 41 := fun y hn => by
    obtain ⟨_, _, b, r, e, hb⟩ := nameL_parts hn
    exact ⟨b, r ++ y, by rw [e]; rfl, fun e => by subst e; revert hb; decide +kernel⟩
  rw [Tm.text]
  by_cases h1 : k = 1
  · rw [if_pos h1]; exact ⟨63, _, rfl, by decide⟩
  · rw [if_neg h1]
    by_cases h2 : k = 2
    · rw [if_pos h2]; exact app _ (check_leaf (.inr h2) h).2.2.2
    · rw [if_neg h2]; exact app _ (check_app3 (by omega) h).2.2.1
theorem checks_cons {t : Tm} {r : List Tm} (h : Tm.checks (t :: r) = 0) : t.check = 0 ∧ Tm.checks r = 0 := by
  rw [Tm.checks] at h
  split at h
  · rename_i h1; exact absurd h h1
  · rename_i h1; exact ⟨by omega, h⟩
theorem more_stops (l : List Tm) (rest : List UInt8) : Stops (Tm.more l ++ 41 :: rest) := by
  cases l with
  | nil => rw [Tm.more]; exact stops_cons (by decide +kernel)
  | cons t r => rw [Tm.more]; exact stops_cons (by decide +kernel)
theorem prefix_two (a b : UInt8) (r : List UInt8) : Lib.hasPrefix (a :: b :: r) [a, b] = true := by simp [Lib.hasPrefix]

mutual
/-- The parser reads back what was written. -/
theorem pterm_text : ∀ (t : Tm) (n : Nat) (rest : List UInt8), t.check = 0 → 2 * t.text.length ≤ n → Stops rest → pterm n (t.text ++ rest) = some (t, rest)
  | .mk k nm s l, n, rest, h, hn, hr => by
    have hpos : 0 < (Tm.mk k nm s l).text.length := by
      obtain ⟨c, r, e, _⟩ := text_head h
      rw [e]; simp
    obtain ⟨m, rfl⟩ : ∃ m, n = m + 1 := ⟨n - 1, by omega⟩
    by_cases h1 : k = 1
    · obtain ⟨a, b, c, d⟩ := check_leaf (.inl h1) h
      subst h1 c
      exact pterm_var m nm s rest d a b hr
    · by_cases h2 : k = 2
      · obtain ⟨a, b, c, d⟩ := check_leaf (.inr h2) h
        subst h2 c
        exact pterm_atom m nm s rest d a b hr
      · obtain ⟨a, b, c, d⟩ := check_app3 (by omega) h
        subst a b
        have e : (Tm.mk 3 nm 0 l).text = nm.data.toList ++ 40 :: (Tm.texts l ++ [41]) := by rw [Tm.text, if_neg (by omega), if_neg (by omega)]
        rw [e] at hn ⊢
        have e2 : nm.data.toList ++ 40 :: (Tm.texts l ++ [41]) ++ rest = nm.data.toList ++ 40 :: (Tm.texts l ++ 41 :: rest) := by simp
        rw [e2, pterm_app m nm _ c]
        exact pkids_texts l m nm rest d (by simp only [List.length_append, List.length_cons] at hn; omega)
theorem pkids_texts : ∀ (l : List Tm) (n : Nat) (w : ByteArray) (rest : List UInt8), Tm.checks l = 0 → 2 * (Tm.texts l).length + 1 ≤ n → pkids n w [] (Tm.texts l ++ 41 :: rest) = some (.mk 3 w 0 l, rest)
  | [], n, w, rest, _, hn => by
    obtain ⟨m, rfl⟩ : ∃ m, n = m + 1 := ⟨n - 1, by omega⟩
    rw [Tm.texts, List.nil_append, pkids, prefix_one, if_pos rfl]; rfl
  | t :: r, n, w, rest, h, hn => by
    obtain ⟨ht, hr⟩ := checks_cons h
    obtain ⟨c, x, e, hc⟩ := text_head ht
    have hl : (Tm.texts (t :: r)).length = t.text.length + (Tm.more r).length := by rw [Tm.texts, List.length_append]
    have hp : 0 < t.text.length := by rw [e]; simp
    obtain ⟨m, rfl⟩ : ∃ m, n = m + 1 := ⟨n - 1, by omega⟩
    have h1 := pterm_text t m (Tm.more r ++ 41 :: rest) ht (by omega) (more_stops r rest)
    have h2 := pkids_more r m w [t] rest hr (by simp) (by omega)
    have hf : Lib.hasPrefix (Tm.texts (t :: r) ++ 41 :: rest) [41] = false := by rw [Tm.texts, e]; exact prefix_other hc.symm _
    rw [pkids, hf, if_neg (by simp), if_neg (by simp)]
    simp only [ne_eq, not_true, if_false]
    rw [Tm.texts, List.append_assoc, h1]
    exact h2
theorem pkids_more : ∀ (l : List Tm) (n : Nat) (w : ByteArray) (acc : List Tm) (rest : List UInt8), Tm.checks l = 0 → acc ≠ [] → 2 * (Tm.more l).length + 1 ≤ n → pkids n w acc (Tm.more l ++ 41 :: rest) = some (.mk 3 w 0 (acc ++ l), rest)
  | [], n, w, acc, rest, _, _, hn => by
    obtain ⟨m, rfl⟩ : ∃ m, n = m + 1 := ⟨n - 1, by omega⟩
    rw [Tm.more, List.nil_append, pkids, prefix_one, if_pos rfl, List.append_nil]; rfl
  | t :: r, n, w, acc, rest, h, ha, hn => by
    obtain ⟨ht, hr⟩ := checks_cons h
    have hl : (Tm.more (t :: r)).length = t.text.length + (Tm.more r).length + 2 := by rw [Tm.more]; simp
    obtain ⟨m, rfl⟩ : ∃ m, n = m + 1 := ⟨n - 1, by omega⟩
    have h1 := pterm_text t m (Tm.more r ++ 41 :: rest) ht (by omega) (more_stops r rest)
    have h2 := pkids_more r m w (acc ++ [t]) rest hr (by simp) (by omega)
    rw [pkids, Tm.more, List.cons_append, List.cons_append, prefix_other (by decide), if_neg (by simp), prefix_two, if_neg (by simp), if_pos ha]
    simp only [List.drop_succ_cons, List.drop_zero]
    rw [List.append_assoc, h1]
    simp only
    rw [h2]; simp
end
theorem parseE_text {t : Tm} (h : t.valid = 0) : parseE t.text = (t, 0) := by
  have hc : t.check = 0 := by
    unfold Tm.valid at h
    split at h
    · exact h
    · rename_i h1; omega
  have := pterm_text t (2 * t.text.length + 1) [] hc (by omega) stops_nil
  rw [List.append_nil] at this
  unfold parseE
  rw [this]
  exact if_pos h

theorem take_word (l : List UInt8) : l.takeWhile partB ++ l.drop (wlen l) = l := List.prefix_iff_eq_append.1 (List.takeWhile_prefix _)
theorem sorts_back {least : Int} (h0 : 0 ≤ least) {l : List UInt8} (h : (sorts least l).2.1 = true) :
    least ≤ (sorts least l).1 ∧ (58 :: sortWord (sorts least l).1) ++ l.drop (sorts least l).2.2 = l := by
  by_cases hc : Lib.hasPrefix l [58] = true
  · obtain ⟨r, rfl⟩ := prefix_colon hc
    rw [sorts_colon] at h ⊢
    have h1 : least ≤ sortOf (r.takeWhile partB) := by simpa using h
    refine ⟨h1, ?_⟩
    show (58 :: sortWord (sortOf (r.takeWhile partB))) ++ (58 :: r).drop (1 + wlen r) = 58 :: r
    rw [(word_of_sort (l := r.takeWhile partB) (by omega)).2, Nat.add_comm, List.drop_succ_cons, List.cons_append, take_word]
  · rw [sorts_no least l (by simpa using hc)] at h
    cases h
theorem prefix_cons {c : UInt8} {l : List UInt8} (h : Lib.hasPrefix l [c] = true) : c :: l.drop 1 = l := by
  cases l with
  | nil => simp [Lib.hasPrefix] at h
  | cons b r => simp [Lib.hasPrefix] at h; rw [h]; rfl
theorem prefix_cons2 {a c : UInt8} {l : List UInt8} (h : Lib.hasPrefix l [a, c] = true) : a :: c :: l.drop 2 = l := by
  cases l with
  | nil => simp [Lib.hasPrefix] at h
  | cons b r =>
    cases r with
    | nil => simp [Lib.hasPrefix] at h
    | cons d r => simp [Lib.hasPrefix] at h; rw [h.1, h.2]; rfl
theorem pvar_back {w : ByteArray} {l r : List UInt8} {t : Tm} (h : pvar w l = some (t, r)) : 63 :: (w.data.toList ++ l) = t.text ++ r := by
  unfold pvar at h
  by_cases hc : Lib.hasPrefix l [58] = true
  · rw [if_pos hc] at h
    by_cases hs : (sorts 1 l).2.1 = true
    · rw [if_pos hs] at h
      obtain ⟨h1, h2⟩ := sorts_back (by omega) hs
      injection h with h; injection h with h3 h4
      subst h3 h4
      rw [Tm.text, if_pos rfl, if_neg (by omega)]
      conv => lhs; rw [← h2]
      simp
    · rw [if_neg hs] at h; cases h
  · rw [if_neg hc] at h
    injection h with h; injection h with h3 h4
    subst h3 h4
    rw [Tm.text, if_pos rfl, if_pos rfl]; simp
theorem patom_back {w : ByteArray} {l r : List UInt8} {t : Tm} (h : patom w l = some (t, r)) : w.data.toList ++ l = t.text ++ r := by
  unfold patom at h
  by_cases hs : (sorts 0 l).2.1 = true
  · rw [if_pos hs] at h
    obtain ⟨h1, h2⟩ := sorts_back (by omega) hs
    injection h with h; injection h with h3 h4
    subst h3 h4
    rw [Tm.text, if_neg (by omega), if_pos rfl]
    conv => lhs; rw [← h2]
    simp
  · rw [if_neg hs] at h; cases h
/-- What the parser reads is the text of what it makes. -/
theorem ptext : ∀ n, (∀ l t r, pterm n l = some (t, r) → l = t.text ++ r) ∧ (∀ w acc l t r, pkids n w acc l = some (t, r) → ∃ k, t = .mk 3 w 0 (acc ++ k) ∧ l = (if acc = [] then Tm.texts k else Tm.more k) ++ 41 :: r)
  | 0 => ⟨fun l t r h => by simp [pterm] at h, fun w acc l t r h => by simp [pkids] at h⟩
  | n + 1 => by
    obtain ⟨ih1, ih2⟩ := ptext n
    constructor
    · intro l t r h
      rw [pterm] at h
      by_cases hv : Lib.hasPrefix l [63] = true
      · rw [if_pos hv] at h
        by_cases hn : nameL ((l.drop 1).takeWhile partB) = false
        · rw [if_pos hn] at h; cases h
        · rw [if_neg hn, if_pos hv] at h
          have := pvar_back h
          rw [← this]
          show l = 63 :: ((l.drop 1).takeWhile partB ++ (l.drop 1).drop (wlen (l.drop 1)))
          rw [take_word, prefix_cons hv]
      · rw [if_neg hv] at h
        by_cases hn : nameL (l.takeWhile partB) = false
        · rw [if_pos hn] at h; cases h
        · rw [if_neg hn, if_neg hv] at h
          by_cases hp : Lib.hasPrefix (l.drop (wlen l)) [40] = false
          · rw [if_pos hp] at h
            rw [← patom_back h]
            exact (take_word l).symm
          · rw [if_neg hp] at h
            obtain ⟨k, rfl, h2⟩ := ih2 _ _ _ _ _ h
            rw [if_pos rfl] at h2
            rw [List.nil_append, Tm.text, if_neg (by omega), if_neg (by omega)]
            show l = l.takeWhile partB ++ 40 :: (Tm.texts k ++ [41]) ++ r
            have h3 : 40 :: (l.drop (wlen l)).drop 1 = l.drop (wlen l) := prefix_cons (by simpa using hp)
            conv => lhs; rw [← take_word l, ← h3, h2]
            simp
    · intro w acc l t r h
      rw [pkids] at h
      by_cases h1 : Lib.hasPrefix l [41] = true
      · rw [if_pos h1] at h
        injection h with h; injection h with h3 h4
        subst h3 h4
        refine ⟨[], by simp, ?_⟩
        rw [prefix_cons h1]; split <;> simp [Tm.texts, Tm.more]
      · rw [if_neg h1] at h
        by_cases h2 : acc ≠ [] ∧ Lib.hasPrefix l [44, 32] = false
        · rw [if_pos h2] at h; cases h
        · rw [if_neg h2] at h
          split at h
          · cases h
          · rename_i k r' hk
            obtain ⟨m, rfl, h4⟩ := ih2 _ _ _ _ _ h
            rw [if_neg (by simp)] at h4
            have h5 := ih1 _ _ _ hk
            refine ⟨k :: m, by simp, ?_⟩
            by_cases ha : acc = []
            · rw [if_pos ha, Tm.texts]
              rw [if_neg (by simpa using ha)] at h5
              rw [h5, h4]; simp
            · rw [if_neg ha, Tm.more]
              rw [if_pos ha] at h5
              have h6 : Lib.hasPrefix l [44, 32] = true := by
                cases e : Lib.hasPrefix l [44, 32] with
                | true => rfl
                | false => exact absurd ⟨ha, e⟩ h2
              have h7 := prefix_cons2 h6
              rw [← h7, h5, h4]; simp
theorem text_parseE {l : List UInt8} (h : (parseE l).2 = 0) : (parseE l).1.valid = 0 ∧ (parseE l).1.text = l := by
  unfold parseE at h ⊢
  split at h
  · rename_i t hp
    split at h
    · rename_i hv
      rw [if_pos hv]
      have := (ptext _).1 _ _ _ hp
      rw [List.append_nil] at this
      exact ⟨hv, this.symm⟩
    · rename_i hv; exact absurd h hv
  · cases h
end Go.Proofs.YtipmibjhlpnhjaaGreatDoor
namespace Go.Proofs.YtipmibjhlpnhjaaGreatDoor
open Go.RowKit

theorem byteInfo : (Tryz.prog.info? 5).map (fun i => (i.zero, i.size, i.bytes)) = some (some (.int .u8 0), 1, 1) := by kernel_rfl
theorem builderSize : (Tryz.prog.info? 129).map (fun i => i.size) = some 2 := by kernel_rfl
theorem builderLies : liesAt Tryz.prog Tryz.prog.depth 129 (2 / Tryz.prog.cellsOf 129) 0 129 1 = true := by kernel_rfl

set_option maxHeartbeats 1000000 in
set_option maxRecDepth 100000 in
theorem copyCheck_used (b : Nat) (w : World) (h0 : w.cell? ⟨b, 0, none⟩ = some (.pointer (some ⟨b, 0, none⟩))) :
    Calls Tryz.prog 149 #[.pointer (some ⟨b, 0, none⟩)] w fun e w' => e = .returned (.tuple #[]) ∧ w' = w := by
  obtain ⟨j, hj, _⟩ := Option.map_eq_some_iff.1 builderSize
  go_enter Tryz.func149, Tryz.ntmps149
  go_wp2
  rw [Lib.run_neq_ptr_same w _ Tryz.underlying126 hj]
  go_wp2
  go_end0
  exact ⟨rfl, rfl⟩

set_option maxHeartbeats 1000000 in
set_option maxRecDepth 100000 in
theorem copyCheck_fresh (b : Nat) (w : World) (h0 : w.cell? ⟨b, 0, none⟩ = some (.pointer none)) (hsh : w.shape? b = some (129, 2)) (hfz : w.frozen? ⟨b, 0, none⟩ = false) :
    Calls Tryz.prog 149 #[.pointer (some ⟨b, 0, none⟩)] w fun e w' => e = .returned (.tuple #[]) ∧ w' = w.setCell ⟨b, 0, none⟩ (.pointer (some ⟨b, 0, none⟩)) := by
  obtain ⟨j, hj, hjs⟩ := Option.map_eq_some_iff.1 builderSize
  go_enter Tryz.func149, Tryz.ntmps149
  go_wp2
  rw [Lib.run_to_unsafe w ⟨b, 0, none⟩ Tryz.underlying126 Tryz.underlying185 hj (by rw [hjs]; decide) hsh (Nat.zero_lt_succ 1)]
  simp only [Result.andThen]
  rw [Oper.upon_value]
  go_wp2
  rw [run_callFunc_extern Tryz.func182 (by kernel_rfl) (by kernel_rfl) (by kernel_rfl) (e := Extern.AbiNoEscape.same) (by kernel_rfl)]
  rw [Lib.run_noEscape]
  simp only [Result.andThen]
  rw [Oper.upon_value]
  go_wp2
  rw [Lib.run_from_unsafe w ⟨b, 0, none⟩ Tryz.underlying185 Tryz.underlying126 hj hsh builderLies]
  simp only [Result.andThen]
  rw [Oper.upon_value]
  go_wp2
  go_end0
  exact ⟨rfl, rfl⟩

/-- what a builder's call leaves: below B all is as it was; above, all but the builder's block and rows of bytes; and no draw goes back -/
structure Wrote (B b : Nat) (w w' : World) : Prop where
  below : Below B w w'
  others : Lib.OthersKept 5 (some b) w w'
abbrev IsB (B b : Nat) (l : List UInt8) (w : World) : Prop := Lib.IsBuilderF 129 5 B b (Lib.byteCells l) w
theorem Wrote.refl (B b : Nat) (w : World) : Wrote B b w w := ⟨Below.refl _ _, Lib.OthersKept.refl _ _ _⟩
theorem Wrote.trans {B b : Nat} {u v w : World} (h : Wrote B b u v) (k : Wrote B b v w) : Wrote B b u w := ⟨h.below.trans k.below, h.others.trans k.others⟩

theorem copyCheck_any (B b : Nat) (bs : List Value) (w : World) (h : Lib.IsBuilderF 129 5 B b bs w) :
    Calls Tryz.prog 149 #[.pointer (some ⟨b, 0, none⟩)] w fun e w' => e = .returned (.tuple #[]) ∧ (Lib.BuilderAtF 129 5 B b (.pointer (some ⟨b, 0, none⟩)) bs w' ∧ Wrote B b w w') := by
  rcases h with h | h
  · refine (copyCheck_fresh b w h.cell0 h.shape h.frozen0).mono ?_
    rintro e w' ⟨rfl, rfl⟩
    exact ⟨rfl, h.used _, (Below.refl B w).setCell (p := ⟨b, 0, none⟩) h.1 _, (Lib.OthersKept.refl _ _ w).setCell ⟨b, 0, none⟩ rfl _⟩
  · refine (copyCheck_used b w h.cell0).mono ?_
    rintro e w' ⟨rfl, rfl⟩
    exact ⟨rfl, h, Wrote.refl _ _ _⟩

set_option maxHeartbeats 2000000 in
set_option maxRecDepth 100000 in
theorem writeByte_any (B b : Nat) (l : List UInt8) (c : UInt8) (w : World) (h : IsB B b l w) (hlen : l.length + 1 ≤ 140737488355328) (hBw : B ≤ w.heap.size) :
    Calls Tryz.prog 148 #[.pointer (some ⟨b, 0, none⟩), .int .u8 c.toNat] w fun e w' => e = .returned .nilIface ∧ (IsB B b (l ++ [c]) w' ∧ Wrote B b w w') := by
  obtain ⟨i0, hi, hz0, hz1, hz2⟩ := info_parts byteInfo
  have HCL := Lib.hid (Lib.byteCells_length l)
  have CC := Lib.hid (copyCheck_any B b _ w h); clear h
  go_enter Tryz.func148, Tryz.ntmps148
  go_wp2_with fail
  refine CC.out.mono ?_
  rintro e w1 ⟨rfl, h1, hw1⟩
  obtain ⟨hB, v, hbk, hown, hne⟩ := h1
  obtain ⟨hb1, hk1⟩ := hw1
  have c0 : w1.cell? ⟨b, 0, none⟩ = some (.pointer (some ⟨b, 0, none⟩)) := by rw [Lib.cell_of_heap hbk]; rfl
  have c1 : w1.cell? ⟨b, 1, none⟩ = some v := by rw [Lib.cell_of_heap hbk]; rfl
  go_wp2_with (at_builtin; refine wpList_append_ownF _ rfl _ _ 127 rfl B 5 i0 (.int .u8 0) 1 1 Tryz.underlying127 hi hz0 hz1 hz2 rfl (by decide) _ _ _ rfl (hown.alloc _) ⟨w1.heap.size, 0, none⟩ 1 1 [.int .u8 c.toNat] rfl rfl ?c1 ?c2 ?c3 ?c4 ?c5 ?_)
  case c1 =>
    intro j u hj
    match j, hj with
    | 0, hj => simp at hj; subst hj; simp [Addr.add]
  case c2 => intro u hu; simp at hu; subst hu; rfl
  case c3 => have := HCL.out; unfold maxLen; omega
  case c4 => have := HCL.out; omega
  case c5 => have := hb1.size; simp; omega
  intro v' w2 hown' hgrow _
  have hlt : b < w1.heap.size := by
    rcases Nat.lt_or_ge b w1.heap.size with h' | h'
    · exact h'
    · simp [Array.getElem?_eq_none h'] at hbk
  have hb2 : w2.heap[b]? = some (.cells #[.pointer (some ⟨b, 0, none⟩), v] 129 (0, 0)) := by
    rw [hgrow.block b (by simp; omega) (fun e => hne e.symm), Lib.alloc_old w1 _ b hlt]
    exact hbk
  have d0 : w2.cell? ⟨b, 0, none⟩ = some (.pointer (some ⟨b, 0, none⟩)) := by rw [Lib.cell_of_heap hb2]; rfl
  have d1 : w2.cell? ⟨b, 1, none⟩ = some v := by rw [Lib.cell_of_heap hb2]; rfl
  have f1 : w2.frozen? ⟨b, 1, none⟩ = false := Lib.frozen_of_heap hb2 1
  obtain ⟨g, cap, rfl⟩ : ∃ g cap, v' = .slice (some ⟨g, 0, none⟩) ((Lib.byteCells l).length + 1) cap := by
    rcases hown'.2 with ⟨_, h0⟩ | ⟨g, cap, cur, fz, hv, _⟩
    · omega
    · exact ⟨g, cap, hv⟩
  go_wp2
  go_ret
  refine ⟨rfl, ?_, ?_, ((hk1.alloc _).grown hgrow (Lib.ownsRowF_kind (hown.alloc _))).setCell ⟨b, 1, none⟩ rfl _⟩
  · have e : Lib.byteCells (l ++ [c]) = Lib.byteCells l ++ [.int .u8 c.toNat] := by simp [Lib.byteCells]
    unfold IsB; rw [e]
    exact .inr (Lib.BuilderAtF.put (T := 129) (e := 5) hB hb2 (bs' := Lib.byteCells l ++ [.int .u8 c.toNat]) (by simpa using hown') (by decide))
  · exact ((hb1.alloc (by have := hb1.size; omega) _).grown hgrow (by have := hb1.size; simp; omega) (fun k hk => (hown.lt k hk).1)).setCell (p := ⟨b, 1, none⟩) hB _

set_option maxHeartbeats 2000000 in
set_option maxRecDepth 100000 in
theorem writeString_any (B b : Nat) (l : List UInt8) (s : ByteArray) (w : World) (h : IsB B b l w) (hlen : l.length + s.size ≤ 140737488355328) (hBw : B ≤ w.heap.size) :
    Calls Tryz.prog 114 #[.pointer (some ⟨b, 0, none⟩), .string s] w fun e w' => e = .returned (.tuple #[.int .i64 s.size, .nilIface]) ∧ (IsB B b (l ++ s.data.toList) w' ∧ Wrote B b w w') := by
  obtain ⟨i0, hi, hz0, hz1, hz2⟩ := info_parts byteInfo
  have HCL := Lib.hid (Lib.byteCells_length l)
  have CC := Lib.hid (copyCheck_any B b _ w h); clear h
  go_enter Tryz.func114, Tryz.ntmps114
  go_wp2_with fail
  refine CC.out.mono ?_
  rintro e w1 ⟨rfl, h1, hw1⟩
  obtain ⟨hB, v, hbk, hown, hne⟩ := h1
  obtain ⟨hb1, hk1⟩ := hw1
  have c0 : w1.cell? ⟨b, 0, none⟩ = some (.pointer (some ⟨b, 0, none⟩)) := by rw [Lib.cell_of_heap hbk]; rfl
  have c1 : w1.cell? ⟨b, 1, none⟩ = some v := by rw [Lib.cell_of_heap hbk]; rfl
  go_wp2_with (at_builtin; refine Lib.wpList_append_own_stringF _ rfl _ _ 127 9 rfl B 5 i0 Tryz.underlying127 Tryz.underlying9 hi hz0 hz1 hz2 _ _ _ rfl hown s rfl ?c3 ?c4 ?c5 ?_)
  case c3 => have := HCL.out; unfold maxLen; omega
  case c4 => have := HCL.out; omega
  case c5 => have := hb1.size; omega
  intro v' w2 hown' hgrow _
  have hlt : b < w1.heap.size := by
    rcases Nat.lt_or_ge b w1.heap.size with h' | h'
    · exact h'
    · simp [Array.getElem?_eq_none h'] at hbk
  have hb2 : w2.heap[b]? = some (.cells #[.pointer (some ⟨b, 0, none⟩), v] 129 (0, 0)) := by
    rw [hgrow.block b hlt (fun e => hne e.symm)]
    exact hbk
  have d0 : w2.cell? ⟨b, 0, none⟩ = some (.pointer (some ⟨b, 0, none⟩)) := by rw [Lib.cell_of_heap hb2]; rfl
  have d1 : w2.cell? ⟨b, 1, none⟩ = some v := by rw [Lib.cell_of_heap hb2]; rfl
  have f1 : w2.frozen? ⟨b, 1, none⟩ = false := Lib.frozen_of_heap hb2 1
  obtain ⟨ao, n', cap, rfl⟩ : ∃ ao n' cap, v' = .slice ao n' cap := by
    rcases hown'.2 with ⟨hv, _⟩ | ⟨g, cap, cur, fz, hv, _⟩
    · exact ⟨_, _, _, hv⟩
    · exact ⟨_, _, _, hv⟩
  go_wp2
  go_ret2
  refine ⟨rfl, ?_, ?_, (hk1.grown hgrow (Lib.ownsRowF_kind hown)).setCell ⟨b, 1, none⟩ rfl _⟩
  · have e : Lib.byteCells (l ++ s.data.toList) = Lib.byteCells l ++ Lib.strCells s := by simp [Lib.byteCells, Lib.strCells]
    unfold IsB; rw [e]
    exact .inr (Lib.BuilderAtF.put (T := 129) (e := 5) hB hb2 (bs' := Lib.byteCells l ++ Lib.strCells s) (by simpa [Lib.strCells_length] using hown') (by decide))
  · exact (hb1.grown hgrow (by have := hb1.size; omega) (fun k hk => (hown.lt k hk).1)).setCell (p := ⟨b, 1, none⟩) hB _
end Go.Proofs.YtipmibjhlpnhjaaGreatDoor
namespace Go.Proofs.YtipmibjhlpnhjaaGreatDoor
open Go.RowKit

/-- what write leaves: the builder has the text behind what it had -/
def Written (B b : Nat) (l : List UInt8) (t : Tm) (w : World) (e : Ending) (w' : World) : Prop :=
  e = .returned (.tuple #[]) ∧ IsB B b (l ++ t.text) w' ∧ Wrote B b w w'

theorem Wrote.alloc {B b : Nat} {u w : World} (h : Wrote B b u w) (hB : B ≤ w.heap.size) (o : Obj) : Wrote B b u (w.alloc o) := ⟨h.below.alloc hB o, h.others.alloc o⟩
theorem Wrote.drewN {B b : Nat} {u w : World} (h : Wrote B b u w) (n : Nat) : Wrote B b u (w.drewN n) := ⟨⟨h.below.os, h.below.tape, h.below.output, h.below.size, h.below.block⟩, h.others⟩
theorem IsB.drew {B b : Nat} {l : List UInt8} {w : World} (h : IsB B b l w) : IsB B b l w.drew := h
theorem IsB.drewN {B b : Nat} {l : List UInt8} {w : World} (h : IsB B b l w) (n : Nat) : IsB B b l (w.drewN n) := h
theorem IsB.at {B b : Nat} {l : List UInt8} {w : World} (h : IsB B b l w) : B ≤ b ∧ b < w.heap.size := by
  rcases h with h | h
  · exact ⟨h.1, h.lt⟩
  · exact ⟨h.1, h.lt⟩
theorem Wrote.box {B b : Nat} {u w : World} (h : Wrote B b u w) {p : Nat} {cs : Array Value} {fr : Nat × Nat} (hp : u.heap[p]? = some (.cells cs 24 fr)) (hne : p ≠ b) : w.heap[p]? = some (.cells cs 24 fr) :=
  h.others p _ hp (fun e => hne (Option.some.inj e)) (fun c fz e => by injection e with _ e2 _; exact absurd e2 (by decide))
theorem word_get (s : Nat) (_hs : s ≤ 5) : ⟨(sortWord s).toArray⟩ = wordList.getD s ByteArray.empty := (bytes_of_list _).symm
theorem word_len (s : Nat) (hs : s ≤ 5) : (⟨(sortWord s).toArray⟩ : ByteArray).size ≤ 5 := by
  obtain h | h | h | h | h | h : s = 0 ∨ s = 1 ∨ s = 2 ∨ s = 3 ∨ s = 4 ∨ s = 5 := by omega
  all_goals (subst h; decide +kernel)
theorem list_append (a b : ByteArray) : (a ++ b).data.toList = a.data.toList ++ b.data.toList := by simp


set_option maxHeartbeats 2000000 in
set_option maxRecDepth 100000 in
theorem write_var (B b : Nat) (nm : ByteArray) (s : Nat) (hs : s ≤ 5) (A : Option Addr) (cap : Nat) (l : List UInt8) (w : World) (hnm : nm.size ≤ 24) (hw : Words B w) (hI : IsB B b l w) (hlen : l.length ≤ 1000000000) :
    Calls Tryz.prog 111 #[.pointer (some ⟨b, 0, none⟩), (Tm.mk 1 nm s []).val A cap] w (Written B b l (.mk 1 nm s []) w) := by
  obtain ⟨V, hV⟩ : ∃ V, V = w.alloc (.cells #[.int .i64 1, .string nm, .int .i64 s, .slice A 0 cap] 24) := ⟨_, rfl⟩
  obtain ⟨hBb, hlt⟩ := hI.at
  have hIV : IsB B b l V := by rw [hV]; exact hI.alloc _
  have hWV : Wrote B b w V := by rw [hV]; exact (Wrote.refl _ _ _).alloc (by omega) _
  have hbx : V.heap[w.heap.size]? = some (.cells #[.int .i64 1, .string nm, .int .i64 s, .slice A 0 cap] 24 (0, 0)) := by rw [hV]; exact heap_alloc_new _ _
  have hne : w.heap.size ≠ b := by omega
  have hwV : Words B V := hw.keep (fun b' h => hWV.below.block b' h)
  have hsz : V.heap.size = w.heap.size + 1 := by rw [hV]; simp
  have h63 : (⟨#[63]⟩ ++ nm : ByteArray).size = 1 + nm.size := by rw [ByteArray.size_append]; rfl
  have WS := Lib.hid (writeString_any B b l (⟨#[63]⟩ ++ nm) V hIV (by omega) (by omega))
  obtain ⟨r0, r1, r2, r3, -⟩ := box_at hbx
  have q1 : ¬ 9223372036854775807 < 1 + nm.size := by omega
  have HV := Lib.hid hV; clear hV hI hIV hw
  have HWV := Lib.hid hWV; clear hWV
  have HBX := Lib.hid hbx; clear hbx
  have HWW := Lib.hid hwV; clear hwV h63
  have HT : Hid ((Tm.mk 1 nm s []).text = 63 :: (nm.data.toList ++ (if (s : Int) = 0 then [] else 58 :: sortWord s))) := by rw [Tm.text]; exact if_pos rfl
  simp only [Tm.val, Tm.kind, Tm.name, Tm.sort, Tm.kids]
  go_enter Tryz.func111, Tryz.ntmps111
  go_wp2_with fail
  rw [← HV.out]
  go_wp2_with fail
  refine WS.out.mono ?_; clear WS r0 r1 r2 r3 q1
  rintro e w1 ⟨rfl, hI1, hW1⟩
  have hbx1 := hW1.box HBX.out hne
  obtain ⟨r0, r1, r2, r3, -⟩ := box_at hbx1
  have HI1 := Lib.hid hI1; clear hI1
  have HW1 := Lib.hid (HWV.out.trans hW1)
  have HWW1 := Lib.hid (HWW.out.keep (fun b' h => hW1.below.block b' h)); clear hW1 hbx1 HV HWV HBX HWW
  obtain ⟨wb, wo, c, hB0, hwb, g0, g1⟩ := HWW1.out
  rw [list_append] at HI1
  by_cases hs0 : s = 0
  · subst hs0
    clear g1
    go_wp2_with fail
    go_end0
    refine ⟨rfl, ?_, HW1.out⟩
    rw [HT.out, if_pos (show ((0 : Nat) : Int) = 0 from rfl), List.append_nil]
    exact HI1.out
  · have hj := g1 s (by omega)
    rw [← word_get s hs] at hj
    have q1 : ((s : Int) == 0) = false := by rw [beq_eq_false_iff_ne]; omega
    have q2 : ((s : Int) != 0) = true := by simp; omega
    have q3 : (0 : Int) ≤ (s : Int) := by omega
    have q4 : (s : Int) < 6 := by omega
    have hwl := word_len s hs
    obtain ⟨wd, hwd⟩ : ∃ wd, wd = (⟨(sortWord s).toArray⟩ : ByteArray) := ⟨_, rfl⟩
    rw [← hwd] at hj hwl
    have q5 : ¬ 9223372036854775807 < 1 + wd.size := by omega
    have h58 : (⟨#[58]⟩ ++ wd : ByteArray).size = 1 + wd.size := by rw [ByteArray.size_append]; rfl
    have hnl := size_list nm
    have hlt1 := HI1.out.at
    have WS := Lib.hid (writeString_any B b _ (⟨#[58]⟩ ++ wd) w1 HI1.out (by simp only [List.length_append, List.length_cons, List.length_nil]; rw [← hnl, h58]; omega) (by omega))
    rw [list_append] at WS
    have HWD : Hid (wd.data.toList = sortWord s) := by rw [hwd]; exact rfl
    have HS0 := Lib.hid hs0
    clear g1 hwd h58 hnl hs0 hwl
    go_wp2_with fail
    refine WS.out.mono ?_
    rintro e w2 ⟨rfl, hI2, hW2⟩
    have HI2 := Lib.hid hI2; clear hI2
    have HW2 := Lib.hid (HW1.out.trans hW2); clear hW2 hj g0 r0 r1 r2 r3 WS
    go_wp2_with fail
    go_end0
    refine ⟨rfl, ?_, HW2.out⟩
    rw [HT.out, if_neg (by have := HS0.out; omega), ← HWD.out]
    have := HI2.out
    simp only [List.append_assoc] at this
    exact this

set_option maxHeartbeats 2000000 in
set_option maxRecDepth 100000 in
theorem write_atom (B b : Nat) (nm : ByteArray) (s : Nat) (hs : s ≤ 5) (A : Option Addr) (cap : Nat) (l : List UInt8) (w : World) (hnm : nm.size ≤ 24) (hw : Words B w) (hI : IsB B b l w) (hlen : l.length ≤ 1000000000) :
    Calls Tryz.prog 111 #[.pointer (some ⟨b, 0, none⟩), (Tm.mk 2 nm s []).val A cap] w (Written B b l (.mk 2 nm s []) w) := by
  have mixed : Tryz.prog.follows .mixedOrders = true := by kernel_rfl
  obtain ⟨V, hV⟩ : ∃ V, V = w.alloc (.cells #[.int .i64 2, .string nm, .int .i64 s, .slice A 0 cap] 24) := ⟨_, rfl⟩
  obtain ⟨hBb, hlt⟩ := hI.at
  have hIV : IsB B b l V := by rw [hV]; exact hI.alloc _
  have hWV : Wrote B b w V := by rw [hV]; exact (Wrote.refl _ _ _).alloc (by omega) _
  have hbx : V.heap[w.heap.size]? = some (.cells #[.int .i64 2, .string nm, .int .i64 s, .slice A 0 cap] 24 (0, 0)) := by rw [hV]; exact heap_alloc_new _ _
  have hne : w.heap.size ≠ b := by omega
  have hwV : Words B V := hw.keep (fun b' h => hWV.below.block b' h)
  have hsz : V.heap.size = w.heap.size + 1 := by rw [hV]; simp
  obtain ⟨wb, wo, c, hB0, hwb, g0, g1⟩ := hwV
  have hj := g1 s (by omega)
  rw [← word_get s hs] at hj
  have hwl := word_len s hs
  obtain ⟨wd, hwd⟩ : ∃ wd, wd = (⟨(sortWord s).toArray⟩ : ByteArray) := ⟨_, rfl⟩
  have HWD : Hid (wd.data.toList = sortWord s) := by rw [hwd]; exact rfl
  rw [← hwd] at hj hwl
  have q1 : ¬ 9223372036854775807 < nm.size + 1 := by omega
  have q5 : ¬ 9223372036854775807 < nm.size + 1 + wd.size := by omega
  have q3 : (0 : Int) ≤ (s : Int) := by omega
  have q4 : (s : Int) < 6 := by omega
  have h58 : (nm ++ ⟨#[58]⟩ ++ wd : ByteArray).size = nm.size + 1 + wd.size := by rw [ByteArray.size_append, ByteArray.size_append]; rfl
  obtain ⟨st, hst⟩ : ∃ st, st = nm ++ (⟨#[58]⟩ : ByteArray) ++ wd := ⟨_, rfl⟩
  rw [← hst] at h58
  have WS := Lib.hid (writeString_any B b l st V.drew hIV.drew (by omega) (by show B ≤ V.heap.size; omega))
  obtain ⟨r0, r1, r2, r3, -⟩ := box_at (show V.drew.heap[w.heap.size]? = _ from hbx)
  have HV := Lib.hid hV; clear hV hI hIV hw
  have HWV : Hid (Wrote B b w V.drew) := hWV.drewN 1; clear hWV
  have HT : Hid ((Tm.mk 2 nm s []).text = nm.data.toList ++ 58 :: sortWord s) := by rw [Tm.text]; exact (if_neg (by omega)).trans (if_pos rfl)
  have HST : Hid (st.data.toList = nm.data.toList ++ 58 :: sortWord s) := by
    rw [hst, list_append, list_append, HWD.out, List.append_assoc]; exact rfl
  clear hwd g1 hbx h58 hwl hnm hlen
  simp only [Tm.val, Tm.kind, Tm.name, Tm.sort, Tm.kids]
  go_enter Tryz.func111, Tryz.ntmps111
  go_wp2_with fail
  rw [← HV.out]
  go_wp2_with fail
  go_still_tail 10, mixed
  change wpList _ _ _ _ _ V.drew
  generalize V.drew = Z at *
  go_wp2_with fail
  rw [← hst]
  refine WS.out.mono ?_
  rintro e w2 ⟨rfl, hI2, hW2⟩
  have HI2 := Lib.hid hI2; clear hI2
  have HW2 := Lib.hid (HWV.out.trans hW2); clear hW2 hj g0 r0 r1 r2 r3 WS
  go_wp2_with fail
  go_end0
  refine ⟨rfl, ?_, HW2.out⟩
  rw [HT.out, ← HST.out]
  exact HI2.out
theorem Tm.more_append : ∀ a b : List Tm, Tm.more (a ++ b) = Tm.more a ++ Tm.more b
  | [], b => by simp [Tm.more]
  | t :: a, b => by simp only [List.cons_append, Tm.more, Tm.more_append a b, List.append_assoc]
theorem Tm.texts_take_le (l : List Tm) (k : Nat) : (Tm.texts (l.take k)).length ≤ (Tm.texts l).length := by
  conv => rhs; rw [← List.take_append_drop k l]
  cases h : l.take k with
  | nil => simp [Tm.texts]
  | cons t r => simp only [List.cons_append, Tm.texts, Tm.more_append, List.length_append]; omega
theorem check_kid {l : List Tm} (h : Tm.checks l = 0) (k : Nat) (hk : k < l.length) : l[k].check = 0 := by
  induction l generalizing k with
  | nil => simp at hk
  | cons t r ih =>
    obtain ⟨h1, h2⟩ := checks_cons h
    cases k with
    | zero => exact h1
    | succ k => exact ih h2 k (by simpa using hk)
theorem name_size {nm : ByteArray} (h : nameL nm.data.toList = true) : nm.size ≤ 24 := by
  rw [size_list]; exact (nameL_parts h).1

set_option maxHeartbeats 4000000 in
set_option maxRecDepth 100000 in
theorem write_any (B b : Nat) (n : Nat) : ∀ (t : Tm) (A : Option Addr) (cap : Nat) (l : List UInt8) (w : World), t.size ≤ n → n ≤ 1000000 → t.check = 0 → RepT w B t A cap → Words B w → IsB B b l w → l.length + t.text.length ≤ 1000000000 →
    Calls Tryz.prog 111 #[.pointer (some ⟨b, 0, none⟩), t.val A cap] w (Written B b l t w) := by
  induction n with
  | zero => intro t _ _ _ _ h; have := t.size_pos; omega
  | succ n ih =>
    intro t A cap l w hn hb hck hrep hw hI hlen
    obtain ⟨tk, nm, ts, kids⟩ := t
    by_cases k1 : tk = 1
    · obtain ⟨h1, h2, h3, h4⟩ := check_leaf (.inl k1) hck
      subst k1 h3
      obtain ⟨s, rfl⟩ := Int.eq_ofNat_of_zero_le h1
      exact write_var B b nm s (by omega) A cap l w (name_size h4) hw hI (by omega)
    by_cases k2 : tk = 2
    · obtain ⟨h1, h2, h3, h4⟩ := check_leaf (.inr k2) hck
      subst k2 h3
      obtain ⟨s, rfl⟩ := Int.eq_ofNat_of_zero_le h1
      exact write_atom B b nm s (by omega) A cap l w (name_size h4) hw hI (by omega)
    obtain ⟨h1, h2, h3, h4⟩ := check_app3 (by omega) hck
    subst h1 h2
    clear k1 k2 hck
    have hnm := name_size h3
    have htx : (Tm.mk 3 nm 0 kids).text = nm.data.toList ++ 40 :: (Tm.texts kids ++ [41]) := by rw [Tm.text, if_neg (by omega), if_neg (by omega)]
    rw [Tm.size] at hn
    have hln : l.length + (nm.size + (Tm.texts kids).length + 2) ≤ 1000000000 := by
      rw [htx] at hlen; simp only [List.length_append, List.length_cons, List.length_nil, ← size_list] at hlen; omega
    rw [RepT_mk] at hrep
    obtain ⟨-, hr2, hr3, hr4⟩ := hrep
    have hls := Tm.length_le_sizes kids
    obtain ⟨V, hV⟩ : ∃ V, V = w.alloc (.cells #[.int .i64 3, .string nm, .int .i64 0, .slice A kids.length cap] 24) := ⟨_, rfl⟩
    obtain ⟨hBb, hlt⟩ := hI.at
    have hIV : IsB B b l V := by rw [hV]; exact hI.alloc _
    have hWV : Wrote B b w V := by rw [hV]; exact (Wrote.refl _ _ _).alloc (by omega) _
    have hbx : V.heap[w.heap.size]? = some (.cells #[.int .i64 3, .string nm, .int .i64 0, .slice A kids.length cap] 24 (0, 0)) := by rw [hV]; exact heap_alloc_new _ _
    have hne : w.heap.size ≠ b := by omega
    have hsz : V.heap.size = w.heap.size + 1 := by rw [hV]; simp
    have q1 : ¬ 9223372036854775807 < nm.size + 1 := by omega
    have h40 : (nm ++ ⟨#[40]⟩ : ByteArray).size = nm.size + 1 := by rw [ByteArray.size_append]; rfl
    have WS := Lib.hid (writeString_any B b l (nm ++ ⟨#[40]⟩) V hIV (by omega) (by omega))
    rw [list_append] at WS
    obtain ⟨r0, r1, r2, r3, -⟩ := box_at hbx
    have HV := Lib.hid hV; clear hV hIV hI
    have HWV := Lib.hid hWV; clear hWV
    have HBX := Lib.hid hbx; clear hbx
    have HW := Lib.hid hw; clear hw
    have HTX := Lib.hid htx; clear htx
    have HCK := Lib.hid h4; clear h4 h3 h40 hlen
    have IH := Lib.hid ih; clear ih
    have HNL := Lib.hid (size_list nm)
    simp only [Tm.val, Tm.kind, Tm.name, Tm.sort, Tm.kids]
    go_enter Tryz.func111, Tryz.ntmps111
    go_wp2_with fail
    rw [← HV.out]
    go_wp2_with fail
    refine WS.out.mono ?_; clear WS r0 r1 r2 r3 q1
    rintro e w1 ⟨rfl, hI1, hW1⟩
    have hbx1 := hW1.box HBX.out hne
    obtain ⟨r0, r1, r2, r3, -⟩ := box_at hbx1
    have HI1 := Lib.hid hI1; clear hI1
    have HW1 := Lib.hid (HWV.out.trans hW1); clear hW1 hbx1 HWV HV HBX
    go_wp2_with fail
    clear r0 r1 r2 r3
    go_loopw [47] (fun i wr => ∃ k : Nat, k ≤ kids.length ∧ i = .int .i64 k ∧ Hid (IsB B b (l ++ (nm.data.toList ++ [40]) ++ Tm.texts (kids.take k)) wr) ∧ Hid (Wrote B b w wr)) (fun i _ => kids.length - (intOf i).toNat)
    case atStart => exact ⟨0, Nat.zero_le _, rfl, by rw [List.take_zero, Tm.texts, List.append_nil]; exact HI1, HW1⟩
    case round =>
      obtain ⟨k, hk, rfl, HI, HWR⟩ := hrel
      have i1 : (0 : Int) ≤ (k : Int) := Int.natCast_nonneg _
      have hiat := HI.out.at
      by_cases hlt2 : k < kids.length
      · have i2 : (k : Int) < (kids.length : Int) := by omega
        rcases hr4 with rfl | ⟨kb, off, rfl, hbB, hl⟩
        · simp at hlt2
        obtain ⟨A', cap', c0, c1, c2, c3, c5⟩ := (hl.below HWR.out.below hbB).get k hlt2
        have hsg := Tm.sizes_get kids k hlt2
        have htt := Tm.texts_take_succ kids k hlt2
        have htl := Tm.texts_take_le kids (k + 1)
        have hln2 := congrArg List.length htt
        rw [List.length_append, List.length_append] at hln2
        have hnl := HNL.out
        have hkc := check_kid HCK.out k hlt2
        obtain ⟨X, hX⟩ : ∃ X, X = wr.alloc (.cells #[.int .i64 kids[k].kind, .string kids[k].name, .int .i64 kids[k].sort, .slice A' kids[k].kids.length cap'] 24) := ⟨_, rfl⟩
        have hIX : IsB B b (l ++ (nm.data.toList ++ [40]) ++ Tm.texts (kids.take k)) X := by rw [hX]; exact HI.out.alloc _
        have hWX : Wrote B b w X := by rw [hX]; exact HWR.out.alloc (by omega) _
        have hbX : X.heap[wr.heap.size]? = some (.cells #[.int .i64 kids[k].kind, .string kids[k].name, .int .i64 kids[k].sort, .slice A' kids[k].kids.length cap'] 24 (0, 0)) := by rw [hX]; exact heap_alloc_new _ _
        have hneX : wr.heap.size ≠ b := by omega
        by_cases hk0 : k = 0
        · have q0 : decide (0 < k) = false := decide_eq_false (by omega)
          have CON := IH.out kids[k] A' cap' _ X (by omega) (by omega) hkc (RepP.mono (fun _ h => h) (fun p (hp : p.block < B) => by rw [hWX.below.cell hp, HWR.out.below.cell hp]) _ _ _ c5) (HW.out.keep (fun b' h => hWX.below.block b' h)) hIX (by simp only [List.length_append, List.length_cons, List.length_nil] at *; omega)
          simp only [Tm.val] at CON
          have CON := Lib.hid CON
          have HT := Lib.hid (show l ++ (nm.data.toList ++ [40]) ++ Tm.texts (kids.take k) ++ kids[k].text = l ++ (nm.data.toList ++ [40]) ++ Tm.texts (kids.take (k + 1)) by
            rw [htt, if_pos hk0, List.nil_append, List.append_assoc])
          have HX := Lib.hid hX; clear hX hIX hbX hk0
          have HWX := Lib.hid hWX; clear hWX c5 htt hl htl hln2 hnl hkc
          go_wp2_with fail
          rw [← HX.out]
          refine CON.out.mono ?_; clear CON c0 c1 c2 c3
          rintro e w2 ⟨rfl, hI2, hW2⟩
          have HI2 := Lib.hid hI2; clear hI2
          have HW2 := Lib.hid (HWX.out.trans hW2); clear hW2
          go_wp2_with fail
          go_roundw
          case rel => exact ⟨k + 1, by omega, by go_num, by rw [← HT.out]; exact HI2.out, HW2.out⟩
          case measure => simp [intOf]; omega
        · have i3 : 0 < k := by omega
          have WS := Lib.hid (writeString_any B b _ ⟨#[44, 32]⟩ X hIX (by simp only [List.length_append, List.length_cons, List.length_nil] at *; have : (⟨#[44, 32]⟩ : ByteArray).size = 2 := rfl; omega) (by have := hIX.at; omega))
          have CON : Hid (∀ Z, IsB B b (l ++ (nm.data.toList ++ [40]) ++ Tm.texts (kids.take k) ++ [44, 32]) Z → Wrote B b X Z → Calls Tryz.prog 111 #[.pointer (some ⟨b, 0, none⟩), kids[k].val A' cap'] Z (Written B b (l ++ (nm.data.toList ++ [40]) ++ Tm.texts (kids.take k) ++ [44, 32]) kids[k] Z)) := Lib.hid fun Z hZ hWZ =>
            IH.out kids[k] A' cap' _ Z (by omega) (by omega) hkc (RepP.mono (fun _ h => h) (fun p (hp : p.block < B) => by rw [hWZ.below.cell hp, hWX.below.cell hp, HWR.out.below.cell hp]) _ _ _ c5) (HW.out.keep (fun b' h => (hWX.trans hWZ).below.block b' h)) hZ (by rw [if_neg hk0] at hln2; simp only [List.length_append, List.length_cons, List.length_nil] at *; omega)
          simp only [Tm.val] at CON
          have HT := Lib.hid (show l ++ (nm.data.toList ++ [40]) ++ Tm.texts (kids.take k) ++ [44, 32] ++ kids[k].text = l ++ (nm.data.toList ++ [40]) ++ Tm.texts (kids.take (k + 1)) by
            rw [htt, if_neg hk0]; simp only [List.append_assoc])
          have HX := Lib.hid hX; clear hX hIX
          have HBX := Lib.hid hbX; clear hbX
          have HWX := Lib.hid hWX; clear hWX c5 htt hl htl hln2 hnl hkc hk0
          go_wp2_with fail
          rw [← HX.out]
          refine WS.out.mono ?_; clear WS c0 c1 c2 c3
          rintro e w2 ⟨rfl, hI2, hW2⟩
          have hbx2 := hW2.box HBX.out hneX
          obtain ⟨c0, c1, c2, c3, -⟩ := box_at hbx2
          have CON := Lib.hid (CON.out w2 hI2 hW2)
          have HW2 := Lib.hid (HWX.out.trans hW2); clear hW2 hI2 hbx2
          go_wp2_with fail
          refine CON.out.mono ?_; clear CON c0 c1 c2 c3
          rintro e w3 ⟨rfl, hI3, hW3⟩
          have HI3 := Lib.hid hI3; clear hI3
          have HW3 := Lib.hid (HW2.out.trans hW3); clear hW3
          go_wp2_with fail
          go_roundw
          case rel => exact ⟨k + 1, by omega, by go_num, by rw [← HT.out]; exact HI3.out, HW3.out⟩
          case measure => simp [intOf]; omega
      · obtain rfl : k = kids.length := by omega
        have hi := HI.out
        rw [List.take_length] at hi
        have hnl := HNL.out
        have WB := writeByte_any B b _ 41 wr hi (by simp only [List.length_append, List.length_cons, List.length_nil]; omega) (by omega)
        rw [show ((41 : UInt8).toNat : Int) = 41 from rfl] at WB
        have WB := Lib.hid WB
        clear hi hnl
        go_wp2_with fail
        refine WB.out.mono ?_
        rintro e w2 ⟨rfl, hI2, hW2⟩
        have HI2 := Lib.hid hI2; clear hI2
        have HW2 := Lib.hid (HWR.out.trans hW2); clear hW2
        go_wp2_with fail
        go_end0
        refine ⟨rfl, ?_, HW2.out⟩
        rw [HTX.out]
        have := HI2.out
        simp only [List.append_assoc, List.cons_append, List.nil_append] at this
        exact this

mutual
/-- how long a text can be -/
theorem text_len : ∀ t : Tm, t.check = 0 → t.text.length + 2 ≤ 40 * t.size
  | .mk k nm s l, h => by
    have hw : ∀ s : Int, 0 ≤ s → s ≤ 5 → (sortWord s).length ≤ 5 := fun s h0 h5 => six (P := fun s => (sortWord s).length ≤ 5) (by decide +kernel) (by decide +kernel) (by decide +kernel) (by decide +kernel) (by decide +kernel) (by decide +kernel) h0 h5
    rw [Tm.size, Tm.text]
    by_cases h1 : k = 1
    · obtain ⟨a, b, c, d⟩ := check_leaf (.inl h1) h
      have := (nameL_parts d).1
      have := hw s a b
      rw [if_pos h1]
      split <;> simp only [List.length_append, List.length_cons, List.length_nil] <;> omega
    · rw [if_neg h1]
      by_cases h2 : k = 2
      · obtain ⟨a, b, c, d⟩ := check_leaf (.inr h2) h
        have := (nameL_parts d).1
        have := hw s a b
        rw [if_pos h2]
        simp only [List.length_append, List.length_cons]; omega
      · obtain ⟨a, b, c, d⟩ := check_app3 (by omega) h
        have := (nameL_parts c).1
        have := texts_len l d
        rw [if_neg h2]
        simp only [List.length_append, List.length_cons, List.length_nil]; omega
theorem texts_len : ∀ l : List Tm, Tm.checks l = 0 → (Tm.texts l).length ≤ 40 * Tm.sizes l
  | [], _ => by simp [Tm.texts]
  | t :: r, h => by
    obtain ⟨h1, h2⟩ := checks_cons h
    have := text_len t h1
    have := more_len r h2
    rw [Tm.texts, Tm.sizes, List.length_append]; omega
theorem more_len : ∀ l : List Tm, Tm.checks l = 0 → (Tm.more l).length ≤ 40 * Tm.sizes l
  | [], _ => by simp [Tm.more]
  | t :: r, h => by
    obtain ⟨h1, h2⟩ := checks_cons h
    have := text_len t h1
    have := more_len r h2
    rw [Tm.more, Tm.sizes]; simp only [List.length_append, List.length_cons]; omega
end
theorem valid_check {t : Tm} (h : t.valid = 0) : t.check = 0 ∧ t.size ≤ 400 ∧ t.depth ≤ 40 := by
  unfold Tm.valid at h
  split at h
  · rename_i h1; exact absurd h h1
  · rename_i h1
    split at h
    · omega
    · exact ⟨by omega, by omega, by omega⟩
/-- the text of a term, or its error -/
def Tm.formatE (t : Tm) : List UInt8 × Int := if t.valid = 0 then (t.text, 0) else ([], t.valid)

theorem IsB.fresh {B : Nat} {w : World} (hB : B ≤ w.heap.size) : IsB B w.heap.size [] (w.alloc (.cells #[.pointer none, .slice none 0 0] 129)) :=
  Lib.IsBuilderF.of (.inl ⟨hB, _, heap_alloc_new _ _, World.ownsRow_nil _ _ _ _, by simp [Value.ownBlock]⟩)

set_option maxHeartbeats 2000000 in
set_option maxRecDepth 100000 in
theorem format_any (t : Tm) (A : Option Addr) (cap : Nat) (w : World) (hn : t.size ≤ 1000000) (hrep : RepT w w.heap.size t A cap) (hw : Words w.heap.size w) :
    Calls Tryz.prog 66 #[t.val A cap] w fun e w' => e = .returned (.tuple #[.string ⟨t.formatE.1.toArray⟩, .int .i64 t.formatE.2]) ∧ Below w.heap.size w w' := by
  obtain ⟨V, hV⟩ : ∃ V, V = w.alloc (.cells #[.int .i64 t.kind, .string t.name, .int .i64 t.sort, .slice A t.kids.length cap] 24) := ⟨_, rfl⟩
  have hbV : Below w.heap.size w V := by rw [hV]; exact below1 (Nat.le_refl _) _
  have hbx : V.heap[w.heap.size]? = some (.cells #[.int .i64 t.kind, .string t.name, .int .i64 t.sort, .slice A t.kids.length cap] 24 (0, 0)) := by rw [hV]; exact heap_alloc_new _ _
  have hsz : V.heap.size = w.heap.size + 1 := by rw [hV]; simp
  have VA := Lib.hid (valid_any t A cap V hn (hrep.go hbV (by omega)))
  obtain ⟨vl, hvl⟩ : ∃ vl, vl = t.valid := ⟨_, rfl⟩
  rw [← hvl] at VA
  obtain ⟨r0, r1, r2, r3, -⟩ := box_at hbx
  have HV := Lib.hid hV; clear hV
  have HBV := Lib.hid hbV; clear hbV
  have HBX := Lib.hid hbx; clear hbx
  have HVL := Lib.hid hvl; clear hvl
  simp only [Tm.val] at VA ⊢
  go_enter Tryz.func66, Tryz.ntmps66
  go_wp2_with fail
  rw [← HV.out]
  refine VA.out.mono ?_; clear VA r0 r1 r2 r3
  rintro e w1 ⟨rfl, hl1⟩
  have hB1 : Hid (Below w.heap.size w w1) := HBV.out.trans (hl1.below.mono (by omega))
  have hs1 := hl1.size
  have hbx1 := (hl1.below.block _ (by omega)).trans HBX.out
  obtain ⟨r0, r1, r2, r3, -⟩ := box_at hbx1
  have HBX1 := Lib.hid hbx1; clear hbx1 hl1 HV HBV HBX
  by_cases h0 : vl = 0
  · subst h0
    have hf := valid_check HVL.out.symm
    have htl := text_len t hf.1
    have HFE : Hid (t.formatE = (t.text, 0)) := by unfold Tm.formatE; exact if_pos HVL.out.symm
    obtain ⟨X, hX⟩ : ∃ X, X = w1.alloc (.cells #[.pointer none, .slice none 0 0] 129) := ⟨_, rfl⟩
    have hIX : IsB w.heap.size w1.heap.size [] X := by rw [hX]; exact IsB.fresh (by omega)
    have hbX : Below w1.heap.size w1 X := by rw [hX]; exact below1 (Nat.le_refl _) _
    have hbxX := (hbX.block _ (by omega)).trans HBX1.out
    have hBX := hB1.out.trans (hbX.mono (by omega))
    have WR := write_any w.heap.size w1.heap.size 1000000 t A cap [] X (by omega) (Nat.le_refl _) hf.1 (hrep.go hBX (Nat.le_refl _)) (hw.keep (fun b h => hBX.block b h)) hIX (by simp only [List.length_nil]; omega)
    rw [Tm.val] at WR
    have WR := Lib.hid WR
    rw [hX] at hbxX
    obtain ⟨x0, x1, x2, x3, -⟩ := box_at hbxX
    have HBX2 := Lib.hid hBX; clear hBX hIX hbX hf htl
    have HX := Lib.hid hX; clear hX hbxX
    go_wp2_with fail
    rw [← HX.out]
    refine WR.out.mono ?_; clear WR x0 x1 x2 x3 r0 r1 r2 r3
    rintro e w2 ⟨rfl, hI2, hW2⟩
    have ST := Tryz.Builder_String_any_k w.heap.size w1.heap.size t.text w2 (by simpa using hI2) (by have := hW2.below.size; have := HBX2.out.size; omega)
    have ST := Lib.hid ST
    have HW2 := Lib.hid (HBX2.out.trans hW2.below); clear hI2 hW2
    go_wp2_with fail
    refine ST.out.mono ?_
    rintro e w3 ⟨rfl, -, hB3, -⟩
    have HB3 := Lib.hid (HW2.out.trans hB3); clear hB3
    go_wp2_with fail
    go_ret2
    rw [HFE.out]
    exact ⟨rfl, HB3.out⟩
  · have q : (vl == 0) = false := by rw [beq_eq_false_iff_ne]; exact h0
    have q' : (vl != 0) = true := by simp [h0]
    have HFE : Hid (t.formatE = ([], vl)) := by unfold Tm.formatE; rw [← HVL.out]; exact if_neg h0
    clear h0
    go_wp2_with fail
    go_ret2
    rw [HFE.out]
    exact ⟨rfl, hB1.out⟩
end Go.Proofs.YtipmibjhlpnhjaaGreatDoor
namespace Go.Proofs.YtipmibjhlpnhjaaGreatDoor
open Go.RowKit Go.Sort

theorem bytes_eq {a : ByteArray} {l : List UInt8} (h : a.data.toList = l) : a = ⟨l.toArray⟩ := by subst h; exact bytes_of_list a

set_option maxHeartbeats 1000000 in
theorem word_any (s : Nat) (hs : s ≤ 5) (w : World) : Calls Tryz.prog 116 #[.int .i64 s] w fun e w' => e = .returned (.string ⟨(sortWord s).toArray⟩) ∧ Lay w.heap.size w w' := by
  have hlay : Hid (∀ o, Lay w.heap.size w (w.alloc o)) := fun o => (Lay.refl _ _).alloc (Nat.le_refl _) o
  obtain h | h | h | h | h | h : s = 0 ∨ s = 1 ∨ s = 2 ∨ s = 3 ∨ s = 4 ∨ s = 5 := by omega
  all_goals
    subst h
    clear hs
    go_enter Tryz.func116, Tryz.ntmps116
    go_wp2_with fail
    go_ret
    exact ⟨rfl, hlay.out _⟩

set_option maxHeartbeats 2000000 in
set_option maxRecDepth 100000 in
theorem rtext_leaf (tk : Int) (hk : tk = 1 ∨ tk = 2) (nm : ByteArray) (s : Nat) (hs : s ≤ 5) (hnm : nm.size ≤ 24) (A : Option Addr) (cap : Nat) (w : World) :
    Calls Tryz.prog 69 #[(Tm.mk tk nm s []).val A cap] w fun e w' => e = .returned (.string ⟨(Tm.mk tk nm s []).text.toArray⟩) ∧ Lay w.heap.size w w' := by
  have mixed : Tryz.prog.follows .mixedOrders = true := by kernel_rfl
  obtain ⟨V, hV⟩ : ∃ V, V = w.alloc (.cells #[.int .i64 tk, .string nm, .int .i64 s, .slice A 0 cap] 24) := ⟨_, rfl⟩
  have hlV : Lay w.heap.size w V := by rw [hV]; exact (Lay.refl _ _).alloc (Nat.le_refl _) _
  have hbx : V.heap[w.heap.size]? = some (.cells #[.int .i64 tk, .string nm, .int .i64 s, .slice A 0 cap] 24 (0, 0)) := by rw [hV]; exact heap_alloc_new _ _
  have hsz : V.heap.size = w.heap.size + 1 := by rw [hV]; simp
  obtain ⟨wd, hwd⟩ : ∃ wd, wd = (⟨(sortWord s).toArray⟩ : ByteArray) := ⟨_, rfl⟩
  have hwl := word_len s hs
  have WC : Hid (∀ Z, Calls Tryz.prog 116 #[.int .i64 s] Z fun e w' => e = .returned (.string wd) ∧ Lay Z.heap.size Z w') := Lib.hid fun Z => by rw [hwd]; exact word_any s hs Z
  rw [← hwd] at hwl
  have HWD : Hid (wd.data.toList = sortWord s) := by rw [hwd]; exact rfl
  have hg : ∀ n os, (grow (V.drewN n) os).heap[w.heap.size]? = some (.cells #[.int .i64 tk, .string nm, .int .i64 s, .slice A 0 cap] 24 (0, 0)) := fun n os => ((Lay.of_grow (w := V) n os).below.block _ (by omega)).trans hbx
  have a1 := fun n os => (box_at (hg n os)).2.1
  have a2 := fun n os => (box_at (hg n os)).2.2.1
  have HL : Hid (∀ n os, Lay w.heap.size w (grow (V.drewN n) os)) := Lib.hid fun n os => hlV.trans ((Lay.of_grow n os).mono (by omega))
  obtain ⟨r0, r1, r2, r3, -⟩ := box_at hbx
  have HV := Lib.hid hV; clear hV hwd hg hbx
  have HLV := Lib.hid hlV; clear hlV
  have q1 : ¬ 9223372036854775807 < 1 + nm.size := by omega
  have q2 : ¬ 9223372036854775807 < 1 + nm.size + 1 := by omega
  have q3 : ¬ 9223372036854775807 < 1 + nm.size + 1 + wd.size := by omega
  have q4 : ¬ 9223372036854775807 < nm.size + 1 := by omega
  have q5 : ¬ 9223372036854775807 < nm.size + 1 + wd.size := by omega
  simp only [Tm.val, Tm.kind, Tm.name, Tm.sort, Tm.kids]
  rcases hk with rfl | rfl
  · by_cases hs0 : s = 0
    · have HT : Hid ((Tm.mk 1 nm s []).text = 63 :: nm.data.toList) := by rw [Tm.text, if_pos rfl, if_pos (by omega), List.append_nil]; exact rfl
      have e : ((s : Int) == 0) = true := by rw [beq_iff_eq]; omega
      clear hs0 a1 a2
      go_enter Tryz.func69, Tryz.ntmps69
      go_wp2_with fail
      rw [← HV.out]
      go_wp2_with fail
      go_ret
      refine ⟨?_, HLV.out⟩
      rw [HT.out, bytes_eq (a := ⟨#[63]⟩ ++ nm) (l := 63 :: nm.data.toList) (by rw [list_append]; rfl)]; exact rfl
    · have HT : Hid ((Tm.mk 1 nm s []).text = 63 :: (nm.data.toList ++ 58 :: sortWord s)) := by rw [Tm.text, if_pos rfl, if_neg (by omega)]; exact rfl
      have e : ((s : Int) == 0) = false := by rw [beq_eq_false_iff_ne]; omega
      clear hs0
      go_enter Tryz.func69, Tryz.ntmps69
      go_wp2_with fail
      rw [← HV.out]
      go_wp2_with fail
      go_quiet_grown ((go_at_call 116; exact quiet_lay (WC.out _)))
      go_wp2_with fail
      go_ret
      refine ⟨?_, HL.out _ _⟩
      rw [HT.out, bytes_eq (a := ⟨#[63]⟩ ++ nm ++ ⟨#[58]⟩ ++ wd) (l := 63 :: (nm.data.toList ++ 58 :: sortWord s)) (by simp only [list_append, HWD.out, List.append_assoc]; rfl)]; exact rfl
  · have HT : Hid ((Tm.mk 2 nm s []).text = nm.data.toList ++ 58 :: sortWord s) := by rw [Tm.text]; exact (if_neg (by omega)).trans (if_pos rfl)
    go_enter Tryz.func69, Tryz.ntmps69
    go_wp2_with fail
    rw [← HV.out]
    go_wp2_with fail
    go_quiet_grown ((go_at_call 116; exact quiet_lay (WC.out _)))
    go_wp2_with fail
    go_ret
    refine ⟨?_, HL.out _ _⟩
    rw [HT.out, bytes_eq (a := nm ++ ⟨#[58]⟩ ++ wd) (l := nm.data.toList ++ 58 :: sortWord s) (by simp only [list_append, HWD.out, List.append_assoc]; rfl)]; exact rfl

set_option maxHeartbeats 4000000 in
set_option maxRecDepth 100000 in
theorem rtext_any (n : Nat) : ∀ (t : Tm) (A : Option Addr) (cap : Nat) (w : World), t.size ≤ n → n ≤ 1000000 → t.check = 0 → RepT w w.heap.size t A cap →
    Calls Tryz.prog 69 #[t.val A cap] w fun e w' => e = .returned (.string ⟨t.text.toArray⟩) ∧ Lay w.heap.size w w' := by
  induction n with
  | zero => intro t _ _ _ h; have := t.size_pos; omega
  | succ n ih =>
    intro t A cap w hn hb hck hrep
    obtain ⟨tk, nm, ts, kids⟩ := t
    by_cases k1 : tk = 1 ∨ tk = 2
    · obtain ⟨h1, h2, h3, h4⟩ := check_leaf k1 hck
      subst h3
      obtain ⟨s, rfl⟩ := Int.eq_ofNat_of_zero_le h1
      exact rtext_leaf tk k1 nm s (by omega) (name_size h4) A cap w
    obtain ⟨h1, h2, h3, h4⟩ := check_app3 (by omega) hck
    subst h1 h2
    have htl := text_len _ hck
    clear k1 hck
    have hnm := name_size h3
    have htx : (Tm.mk 3 nm 0 kids).text = nm.data.toList ++ 40 :: (Tm.texts kids ++ [41]) := by rw [Tm.text, if_neg (by omega), if_neg (by omega)]
    rw [Tm.size] at hn htl
    have hln : nm.size + (Tm.texts kids).length + 2 ≤ 100000000 := by
      rw [htx] at htl; simp only [List.length_append, List.length_cons, List.length_nil, ← size_list] at htl; omega
    rw [RepT_mk] at hrep
    obtain ⟨-, hr2, hr3, hr4⟩ := hrep
    have hls := Tm.length_le_sizes kids
    obtain ⟨V, hV⟩ : ∃ V, V = w.alloc (.cells #[.int .i64 3, .string nm, .int .i64 0, .slice A kids.length cap] 24) := ⟨_, rfl⟩
    have hlV : Lay w.heap.size w V := by rw [hV]; exact (Lay.refl _ _).alloc (Nat.le_refl _) _
    have hbx : V.heap[w.heap.size]? = some (.cells #[.int .i64 3, .string nm, .int .i64 0, .slice A kids.length cap] 24 (0, 0)) := by rw [hV]; exact heap_alloc_new _ _
    have hsz : V.heap.size = w.heap.size + 1 := by rw [hV]; simp
    have q1 : ¬ 9223372036854775807 < nm.size + 1 := by omega
    obtain ⟨o0, ho0⟩ : ∃ o, o = nm ++ (⟨#[40]⟩ : ByteArray) := ⟨_, rfl⟩
    have HO0 : Hid (o0.data.toList = nm.data.toList ++ [40]) := by rw [ho0, list_append]; exact rfl
    obtain ⟨r0, r1, r2, r3, -⟩ := box_at hbx
    have HV := Lib.hid hV; clear hV
    have HLV := Lib.hid hlV; clear hlV
    have HBX := Lib.hid hbx; clear hbx
    have HTX := Lib.hid htx; clear htx htl
    have HCK := Lib.hid h4; clear h4 h3
    have IH := Lib.hid ih; clear ih
    have HNL := Lib.hid (size_list nm)
    have HOO := Lib.hid ho0; clear ho0
    simp only [Tm.val, Tm.kind, Tm.name, Tm.sort, Tm.kids]
    go_enter Tryz.func69, Tryz.ntmps69
    go_wp2_with fail
    rw [← HV.out]
    go_wp2_with fail
    rw [← HOO.out]
    clear r0 r1 r2 r3
    go_loopw [3, 4] (fun v i wr => ∃ (k : Nat) (o : ByteArray), k ≤ kids.length ∧ i = .int .i64 k ∧ v = .string o ∧ Hid (o.data.toList = nm.data.toList ++ [40] ++ Tm.texts (kids.take k)) ∧ Hid (Lay V.heap.size V wr)) (fun _ i _ => kids.length - (intOf i).toNat)
    case atStart => exact ⟨0, o0, Nat.zero_le _, rfl, rfl, by rw [List.take_zero, Tm.texts, List.append_nil]; exact HO0, Lay.refl _ _⟩
    case round =>
      obtain ⟨k, o, hk, rfl, rfl, HO, HLR⟩ := hrel
      have i1 : (0 : Int) ≤ (k : Int) := Int.natCast_nonneg _
      have hL := HLV.out.trans (HLR.out.mono (by omega))
      have hbx := (HLR.out.below.block w.heap.size (by omega)).trans HBX.out
      obtain ⟨r0, r1, r2, r3, -⟩ := box_at hbx
      have hwr := HLR.out.size
      have hos := congrArg List.length HO.out
      rw [← size_list, List.length_append, List.length_append, ← HNL.out, List.length_cons, List.length_nil] at hos
      have htk := Tm.texts_take_le kids k
      have ho2 : o.size ≤ 100000000 := by omega
      by_cases hlt2 : k < kids.length
      · have i2 : (k : Int) < (kids.length : Int) := by omega
        rcases hr4 with rfl | ⟨kb, off, rfl, hbB, hl⟩
        · simp at hlt2
        obtain ⟨A', cap', c0, c1, c2, c3, c5⟩ := (hl.below hL.below hbB).get k hlt2
        have hsg := Tm.sizes_get kids k hlt2
        have htt := Tm.texts_take_succ kids k hlt2
        have htl := Tm.texts_take_le kids (k + 1)
        have hln2 := congrArg List.length htt
        rw [List.length_append, List.length_append] at hln2
        have hkc := check_kid HCK.out k hlt2
        obtain ⟨tx, htx⟩ : ∃ tx, tx = (⟨(kids[k].text).toArray⟩ : ByteArray) := ⟨_, rfl⟩
        have htd : tx.data.toList = kids[k].text := by rw [htx]
        have hts : tx.size = kids[k].text.length := by rw [size_list, htd]
        have CON := IH.out kids[k] A' cap' wr (by omega) (by omega) hkc (c5.go (Below.refl _ _) (by omega))
        rw [← htx] at CON
        simp only [Tm.val] at CON
        have CON := Lib.hid CON
        have HL := Lib.hid hL; clear hL hbx hos htk hkc hl c5 htx
        by_cases hk0 : k = 0
        · have q0 : decide (0 < k) = false := decide_eq_false (by omega)
          have q2 : ¬ 9223372036854775807 < o.size + tx.size := by omega
          have HT := Lib.hid (show o.data.toList ++ tx.data.toList = nm.data.toList ++ [40] ++ Tm.texts (kids.take (k + 1)) by
            rw [HO.out, htd, htt, if_pos hk0, List.nil_append, List.append_assoc])
          clear htt htl hln2 htd hts hk0
          go_wp2_with fail
          refine CON.out.mono ?_; clear CON c0 c1 c2 c3 r0 r1 r2 r3
          rintro e w2 ⟨rfl, hl2⟩
          have hl3 : Lay V.heap.size V w2 := HLR.out.trans (hl2.mono hwr)
          clear hl2
          go_wp2_with fail
          go_roundw
          case rel => exact ⟨k + 1, o ++ tx, by omega, by go_num, rfl, by rw [list_append]; exact HT.out, hl3⟩
          case measure => simp [intOf]; omega
        · have i3 : 0 < k := by omega
          have q3 : ¬ 9223372036854775807 < o.size + 2 := by omega
          have q2 : ¬ 9223372036854775807 < o.size + 2 + tx.size := by omega
          have HT := Lib.hid (show o.data.toList ++ [44, 32] ++ tx.data.toList = nm.data.toList ++ [40] ++ Tm.texts (kids.take (k + 1)) by
            rw [HO.out, htd, htt, if_neg hk0]; simp only [List.append_assoc])
          clear htt htl hln2 htd hts hk0
          go_wp2_with fail
          refine CON.out.mono ?_; clear CON c0 c1 c2 c3 r0 r1 r2 r3
          rintro e w2 ⟨rfl, hl2⟩
          have hl3 : Lay V.heap.size V w2 := HLR.out.trans (hl2.mono hwr)
          clear hl2
          go_wp2_with fail
          go_roundw
          case rel => exact ⟨k + 1, o ++ ⟨#[44, 32]⟩ ++ tx, by omega, by go_num, rfl, by rw [list_append, list_append]; exact HT.out, hl3⟩
          case measure => simp [intOf]; omega
      · obtain rfl : k = kids.length := by omega
        have q2 : ¬ 9223372036854775807 < o.size + 1 := by omega
        have HT := Lib.hid (show (o ++ ⟨#[41]⟩ : ByteArray).data.toList = nm.data.toList ++ 40 :: (Tm.texts kids ++ [41]) by
          rw [list_append, HO.out, List.take_length]; simp)
        have HL := Lib.hid hL; clear hL hos htk hbx
        go_wp2_with fail
        go_ret
        refine ⟨?_, HL.out⟩
        rw [HTX.out, bytes_eq HT.out]; exact rfl

end Go.Proofs.YtipmibjhlpnhjaaGreatDoor
