/- A term of a list in memory. -/
import Derived.Test.YtpjmdilpldaapaaDoorGh
namespace Go.Proofs.YtpjmdilpldaapaaDoor
open Go.RowKit Go.Sort
theorem repS_at0 {w : World} {l : List Tm} {A : Option Addr} {cap : Nat} (h : RepS w (fun b => b < w.heap.size) l A cap) (k : Nat) (hk : k < l.length) : ∃ b off A1 c1, A = some ⟨b, off, none⟩ ∧
    w.cell? ⟨b, off + k * 4, none⟩ = some (.int .i64 l[k].kind) ∧ w.cell? ⟨b, off + k * 4 + 1, none⟩ = some (.string l[k].name) ∧ w.cell? ⟨b, off + k * 4 + 2, none⟩ = some (.int .i64 l[k].sort) ∧ w.cell? ⟨b, off + k * 4 + 3, none⟩ = some (.slice A1 l[k].kids.length c1) ∧ RepT w w.heap.size l[k] A1 c1 := by
  rcases h.2.2 with rfl | ⟨b, off, rfl, hb, hl⟩
  · simp at hk
  · obtain ⟨A1, c1, t0, t1, t2, t3, hr⟩ := RepLP.get hl k hk
    exact ⟨b, off, A1, c1, rfl, t0, t1, t2, t3, hr⟩
end Go.Proofs.YtpjmdilpldaapaaDoor
