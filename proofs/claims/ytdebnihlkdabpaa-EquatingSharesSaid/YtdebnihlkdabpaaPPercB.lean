/- Percentile equating: how its curve grows. Plain mathematics. -/
import Derived.Test.YtdebnihlkdabpaaPPerc
namespace Go.VM
set_option linter.unusedVariables false
set_option linter.unusedSimpArgs false

theorem Asc.snoc {e p : Pt} : ∀ {L : List Pt}, Asc L → L.getLast? = some p → p.X < e.X → p.Y < e.Y → Asc (L ++ [e])
  | [], _, h, _, _ => by simp at h
  | [q], _, h, h1, h2 => by
    simp only [List.getLast?_singleton, Option.some.injEq] at h
    subst h
    exact List.pairwise_cons.2 ⟨fun z hz => by have hz' : z ∈ [e] := hz; rw [List.mem_singleton] at hz'; subst hz'; exact ⟨h1, h2⟩, by simp⟩
  | q :: r :: L, hA, h, h1, h2 => by
    have ih := Asc.snoc (L := r :: L) hA.tail (by simpa using h) h1 h2
    have hp : p ∈ r :: L := List.mem_of_getLast? (by simpa using h)
    refine List.pairwise_cons.2 ⟨fun z hz => ?_, ih⟩
    have hz' : z ∈ (r :: L) ++ [e] := hz
    rw [List.mem_append, List.mem_singleton] at hz'
    rcases hz' with hz | rfl
    · exact hA.mem hz
    · have := hA.mem hp
      exact ⟨by grind, by grind⟩
end Go.VM
