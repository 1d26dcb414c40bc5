/- A part of proofs about the given program. No condition. -/
import Derived.Test.YtcgfdjijodlopaaGreatFrm
set_option linter.all false
/- Arguments that are arrays. -/
namespace Go.SL
open Go.ChangeShapes Go.WideShapes Go.ChangeAt Go.RowKit
theorem okWide_arr {P : Program} {w : World} {r : Reach} {base : Nat} {t : TypeId} {v : Value} {e n : Nat} (ht : P.underlying t = some (.array e n)) (h : Value.okWide P w r base t v) : ∃ cs, v = .agg cs ∧ cs.size = P.cellsOf t := by
  simp only [Value.okWide, ht] at h
  obtain ⟨cs, h1, h2, _⟩ := h
  exact ⟨cs, h1, h2⟩
theorem two_of {cs : Array Value} (h : ∀ v ∈ cs.toList, IntOk v) (hs : cs.size = 2) : ∃ a b : Int, cs = #[.int .i64 a, .int .i64 b] := by
  obtain ⟨is, h1, h2⟩ := ints_of h
  have hl : is.length = 2 := by rw [← hs, ← Array.length_toList, h1, List.length_map]
  match is, hl with
  | [a0, a1], _ => exact ⟨a0, a1, Array.ext' (by rw [h1]; rfl)⟩
theorem op_of {cs : Array Value} (h : ∀ v ∈ cs.toList, IntOk v) (hs : cs.size = 3) : ∃ a b d : Int, cs = #[.int .i64 a, .int .i64 b, .int .i64 d] ∧ (-9223372036854775808 ≤ b ∧ b ≤ 9223372036854775807) := by
  obtain ⟨is, h1, h2⟩ := ints_of h
  have hl : is.length = 3 := by rw [← hs, ← Array.length_toList, h1, List.length_map]
  match is, hl with
  | [a0, a1, a2], _ => exact ⟨a0, a1, a2, Array.ext' (by rw [h1]; rfl), h2 a1 (by simp)⟩
end Go.SL
