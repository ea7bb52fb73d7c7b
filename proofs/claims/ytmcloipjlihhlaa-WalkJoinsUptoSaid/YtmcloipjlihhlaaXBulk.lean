/- What a bound on bulk says of lengths. Conditions: none. -/
import Derived.Test.YtmcloipjlihhlaaRows
import Derived.Test.YtmcloipjlihhlaaXOpen2
import Derived.JoinedCond
namespace Go.Proofs.Ytmcloipjlihhlaa
theorem bulk_pos {H : Type} (d : DataW H) : 1 ≤ Rows.uptoBulk d := by
  cases d with
  | lit l => cases l <;> simp [Rows.uptoBulk]
  | _ => simp [Rows.uptoBulk]
theorem bulkAll_len {H : Type} : ∀ l : List (DataW H), l.length ≤ Rows.uptoBulkAll l
  | [] => by simp
  | d :: r => by
    have := bulkAll_len r
    have := bulk_pos d
    simp only [Rows.uptoBulkAll, List.length_cons]; omega
theorem bulk_slice {H : Type} {d : DataW H} {n : Nat} (h : n = 0 ∨ ∃ el sp, d = .slice el sp ∧ el.length = n) : n ≤ Rows.uptoBulk d := by
  rcases h with h | ⟨el, sp, rfl, h⟩
  · omega
  · have := bulkAll_len el
    simp only [Rows.uptoBulk]; omega
theorem bulk_net {H : Type} {d : DataW H} {n : Nat} (h : ∃ d0 d1, d = .agg [d0, d1] ∧ (n = 0 ∨ ∃ el sp, d1 = .slice el sp ∧ el.length = n)) : n ≤ Rows.uptoBulk d := by
  obtain ⟨d0, d1, rfl, h⟩ := h
  have := bulk_slice h
  simp only [Rows.uptoBulk, Rows.uptoBulkAll]; omega
end Go.Proofs.Ytmcloipjlihhlaa
