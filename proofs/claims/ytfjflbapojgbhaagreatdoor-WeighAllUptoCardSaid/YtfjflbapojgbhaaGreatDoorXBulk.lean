/- What a bound on bulk says of lengths. Conditions: none. -/
import Derived.Test.YtfjflbapojgbhaaGreatDoorRows
import Derived.Test.YtfjflbapojgbhaaGreatDoorXOpen2
import Derived.JoinedCond
namespace Go.Proofs.YtfjflbapojgbhaaGreatDoor
theorem bulk_pos {H : Type} (d : DataW H) : 1 ≤ Rows.uptoBulk d := by
  cases d with
  | lit l => cases l <;> simp [Rows.uptoBulk]
  | _ => simp [Rows.uptoBulk]
theorem bulkAll_len {H : Type} : ∀ l : List (DataW H), l.length ≤ Rows.uptoBulkAll l
  | [] => by simp
  | d :: r => by
    have := bulkAll_len r
    have := bulk_pos d
    simp only [Rows.uptoBulkAll, List.length_cons]; omega
theorem bulk_slice {H : Type} {d : DataW H} {n : Nat} (h : n = 0 ∨ ∃ el sp, d = .slice el sp ∧ el.length = n) : n ≤ Rows.uptoBulk d := by
  rcases h with h | ⟨el, sp, rfl, h⟩
  · omega
  · have := bulkAll_len el
    simp only [Rows.uptoBulk]; omega
end Go.Proofs.YtfjflbapojgbhaaGreatDoor
