/- An element of lists of lists of sessions in memory. -/
import Derived.Test.YtpjmdilpldaapaaDoorCsess0
namespace Go.Proofs.YtpjmdilpldaapaaDoor
open Go.RowKit Go.Sort

theorem repSL_at {w : World} {P : Nat → Prop} {L : List (List Ss)} {A : Option Addr} {cap : Nat} (h : RepSL w P L A cap) (i : Nat) (hi : i < L.length) :
    ∃ b off Ai ci, A = some ⟨b, off, none⟩ ∧ P b ∧ w.cell? ⟨b, off + i, none⟩ = some (.slice Ai L[i].length ci) ∧ L[i].length ≤ ci ∧ ci ≤ maxLen ∧
      ∀ k (hk : k < L[i].length), ∃ b' off' Ax cx, Ai = some ⟨b', off', none⟩ ∧ P b' ∧ w.cell? ⟨b', off' + k * 2, none⟩ = some (.int .i64 L[i][k].1) ∧
        w.cell? ⟨b', off' + (k * 2 + 1), none⟩ = some (.slice Ax L[i][k].2.length cx) ∧ RepN w P L[i][k].2 Ax cx := by
  obtain ⟨itss, ivs, h1, rfl, h3, h4, h5⟩ := h
  rw [List.length_map] at hi h5
  have hl : ivs.length = itss.length := by have := congrArg List.length h1; simpa using this
  have hv : i < ivs.length := by omega
  have hx : ivs[i].1 = itss[i].flatMap seCells := by
    have := congrArg (·[i]?) h1
    simpa [hv, hi] using this
  obtain ⟨b, off, hA, hb, hc⟩ := h5.at (by omega)
  have hr := h3 ivs[i] (List.getElem_mem hv)
  have hn : ivs[i].2.2.1 = itss[i].length := by
    have := hr.1
    rw [hx, seCells_length] at this
    omega
  have hci := hc i (ivVal ivs[i]) (by simp [hv])
  unfold ivVal at hci
  rw [hn] at hci
  have hle : (itss.map (·.map (·.1)))[i]'(by simpa using hi) = itss[i].map (·.1) := by simp
  refine ⟨b, off, ivs[i].2.1, ivs[i].2.2.2, hA, hb, ?_, ?_, hr.2.2.1, ?_⟩
  · rw [hle, List.length_map]; exact hci
  · rw [hle, List.length_map, ← hn]; exact hr.2.1
  · intro k hk
    have hk' : k < itss[i].length := by rw [hle, List.length_map] at hk; exact hk
    obtain ⟨b', off', hA', hb', hc'⟩ := hr.at (by omega)
    rw [hx] at hc'
    obtain ⟨g0, g1⟩ := seCells_get itss[i] k hk'
    have he : ((itss.map (·.map (·.1)))[i]'(by simpa using hi))[k] = itss[i][k].1 := by simp
    rw [he]
    exact ⟨b', off', itss[i][k].2.1, itss[i][k].2.2, hA', hb', hc' _ _ g0, hc' _ _ g1, h4 _ (List.getElem_mem hi) _ (List.getElem_mem hk')⟩
theorem RepSL.mono {w w' : World} {P P' : Nat → Prop} (hP : ∀ b, P b → P' b) (hc : ∀ p : Addr, P p.block → w'.cell? p = w.cell? p) {L : List (List Ss)} {A : Option Addr} {cap : Nat} (h : RepSL w P L A cap) : RepSL w' P' L A cap := by
  obtain ⟨itss, ivs, h1, h2, h3, h4, h5⟩ := h
  exact ⟨itss, ivs, h1, h2, fun x hx => RepV.mono hP hc (h3 x hx), fun l hl x hx => RepN.mono hP hc (h4 l hl x hx), RepV.mono hP hc h5⟩
theorem RepSL.fwd {w w' : World} {L : List (List Ss)} {A : Option Addr} {cap : Nat} (h : RepSL w (fun b => b < w.heap.size) L A cap) (hb : Below w.heap.size w w') : RepSL w' (fun b => b < w'.heap.size) L A cap :=
  RepSL.mono (fun b (h : b < w.heap.size) => Nat.lt_of_lt_of_le h hb.size) (fun _ hp => hb.cell hp) h
end Go.Proofs.YtpjmdilpldaapaaDoor
