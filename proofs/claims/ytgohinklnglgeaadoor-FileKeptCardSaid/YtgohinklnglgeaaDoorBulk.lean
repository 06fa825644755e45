/- A slice's places weigh at most its reading's bulk. -/
import Derived.Test.YtgohinklnglgeaaDoorRows
set_option linter.unusedVariables false
set_option linter.unusedSimpArgs false
namespace Go.Proofs.YtgohinklnglgeaaDoor
theorem bulk_pos {H : Type} (d : DataW H) : 1 ≤ Rows.uptoBulk d := by
  cases d with
  | lit l => cases l <;> simp [Rows.uptoBulk]
  | _ => simp [Rows.uptoBulk]
theorem bulk_many {H : Type} : ∀ l : List (DataW H), l.length ≤ Rows.uptoBulkAll l
  | [] => by simp
  | d :: r => by have := bulk_many r; have := bulk_pos d; simp only [Rows.uptoBulkAll, List.length_cons]; omega
theorem bulk_slice {H : Type} (es sp : List (DataW H)) : es.length + sp.length + 1 ≤ Rows.uptoBulk (.slice es sp) := by
  have := bulk_many es; have := bulk_many sp; simp only [Rows.uptoBulk]; omega
end Go.Proofs.YtgohinklnglgeaaDoor
