/- Ints that came in: opened. -/
import Derived.Test.YtjbkkmgkckopdaaDoorPd
import Derived.WalkKit
import Derived.ProofKit
import Derived.OpenShut
import Derived.Deep.Slices
import Derived.Deep.Fields
namespace Go.Proofs.YtjbkkmgkckopdaaDoor.Dv
open Go.Proofs.YtjbkkmgkckopdaaDoorW.PrintWords Go.ChangeShapes Go.WideShapes Go.ChangeAt Go.RowKit Go.Deep
set_option linter.unusedVariables false
/-- Ints lie at an address. -/
def IntsAt (w : World) (p : Option Addr) (xs : List Int) : Prop := ∀ j (h : j < xs.length), ∃ a, p = some a ∧ w.cell? (a.add j) = some (.int .i64 xs[j])
theorem IntsAt.ints {w w0 : World} {p : Option Addr} {xs : List Int} (h : IntsAt w0 p xs) (hb : Below w0.heap.size w0 w) : Ints w (Fr w0) p xs := fun j hj => by
  obtain ⟨a, h1, h2⟩ := h j hj
  have hlt := World.block_lt_of_cell? w0 _ h2
  exact ⟨a, h1, (hb.cell hlt).trans h2, fun h3 => by unfold Fr at h3; omega⟩
section
variable {H : Type} {enc : TypeId × Value → H} {W : World}
theorem ints_open {fuel : Nat} {cs : List Value} {x : DataW H × List MemPlace} (h : DataW.trod enc Tryd.prog W 0 (fun _ => true) true fuel 43 cs = some x) :
    ∃ (p : Option Addr) (c : Nat) (l : List Int), cs = [.slice p l.length c] ∧ l.length ≤ 9223372036854775807 ∧ IntsAt W p l := by
  rcases open_slice Tryd.underlying43 h with ⟨rfl, _⟩ | ⟨a, len, cap, m, n, D, Pl, rfl, hb, hlc, hcm, hm, hx, hi⟩
  · exact ⟨none, 0, [], rfl, by simp, fun j hj => absurd hj (by simp)⟩
  · have hmx : maxLen = 9223372036854775807 := rfl
    have hml : len ≤ m := by rw [hm]; simp only [if_true]; omega
    have hC : Tryd.prog.cellsOf 3 = 1 := by kernel_rfl
    have one : ∀ i, ∃ s : Int, i < len → W.cell? (a.add i) = some (.int .i64 s) := by
      intro i
      by_cases hil : i < len
      · obtain ⟨cs', hc, ht⟩ := hi i (by omega)
        rw [hC] at hc
        obtain ⟨s, rfl, _, _⟩ := DataW.trod_int Tryd.underlying3 ht
        obtain ⟨_, _, hat⟩ := World.cells?_some hc
        refine ⟨s, fun _ => ?_⟩
        have := hat 0 (by omega)
        rw [Nat.mul_one] at this
        rw [Go.Deep.add_add, Nat.add_zero] at this
        exact this
      · exact ⟨0, fun h => absurd h hil⟩
    refine ⟨some a, cap, (List.range len).map (fun i => (one i).choose), by simp, by simp; omega, fun j h => ?_⟩
    have hil : j < len := by simpa using h
    have := (one j).choose_spec hil
    exact ⟨a, rfl, by simpa using this⟩
end
theorem ints_row {H : Type} {enc : TypeId × Value → H} {W : World} {fuel : Nat} {cs : List Value} {x : DataW H × List MemPlace} (h : DataW.trod enc Tryd.prog W 0 (fun _ => true) true fuel 43 cs = some x) :
    ∃ (p : Option Addr) (n c : Nat) (l : List Int), cs = [.slice p n c] ∧ l.length = n ∧ l.length ≤ 9223372036854775807 ∧ IntsAt W p l := by
  obtain ⟨p, c, l, h1, h2, h3⟩ := ints_open h
  exact ⟨p, l.length, c, l, h1, rfl, h2, h3⟩
end Go.Proofs.YtjbkkmgkckopdaaDoor.Dv
