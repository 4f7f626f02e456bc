/- DevPlays' walk, as the row hands it its list. -/
import Derived.Test.YtjbkkmgkckopdaaDevRI
namespace Go.Proofs.Ytjbkkmgkckopdaa.Dv
open Go.RowKit
set_option linter.unusedVariables false
theorem plays_row (n : Int) {q : Option Addr} {m cap : Nat} {l : List Act3} {w : World} (h : l.length = m ∧ l.length ≤ 9223372036854775807 ∧ ActsAt w q l) :
    Calls Try.prog 11 #[.int .i64 n, .slice q m cap] w (Tell (.bool true) w) := by
  obtain ⟨rfl, h1, h2⟩ := h
  by_cases hn : n < 1 ∨ 2048 < n
  · exact plays_no n hn _ w
  · obtain ⟨k, rfl⟩ : ∃ k : Nat, n = (k : Int) := ⟨n.toNat, by omega⟩
    by_cases h20 : 20 < k
    · exact plays_many k h20 (by omega) _ w
    · exact plays_few k (by omega) (by omega) q cap l w h2 h1
end Go.Proofs.Ytjbkkmgkckopdaa.Dv
