/- A list of acts (two whole numbers each) that came in: opened. -/
import Derived.Test.YtjbkkmgkckopdaaGuard
import Derived.WalkKit
import Derived.ProofKit
import Derived.OpenShut
import Derived.Deep.Slices
import Derived.Deep.Fields
namespace Go.Proofs.Ytjbkkmgkckopdaa.Rd
open Go.Proofs.YtjbkkmgkckopdaaW.PrintWords Go.ChangeShapes Go.WideShapes Go.ChangeAt Go.RowKit Go.Deep
set_option linter.unusedVariables false
section
variable {H : Type} {enc : TypeId × Value → H} {P : Program} {w : World} {base : Nat} {spare : Nat → Bool} {held : Bool}
theorem open_slice_fields {t e : TypeId} {fs : Array Field} {fuel : Nat} {cs : List Value} {x : DataW H × List MemPlace} (ht : P.underlying t = some (.slice e)) (he : P.underlying e = some (.struct fs))
    (hone : oneCellFields P fs = true) (hC : P.cellsOf e = fs.size) (h : DataW.trod enc P w base spare held fuel t cs = some x) :
    (cs = [.slice none 0 0] ∧ x = (.nil, [])) ∨
    ∃ (a : Addr) (len cap m : Nat) (D : Nat → DataW H) (Pl : Nat → List MemPlace), cs = [.slice (some a) len cap] ∧ base ≤ a.block ∧ len ≤ cap ∧ cap ≤ maxLen ∧ m = (if spare a.block then cap else len) ∧
      x = (.slice ((List.range len).map D) ((List.range (m - len)).map fun j => D (len + j)), MemPlace.row a (m * fs.size) ++ (List.range m).flatMap Pl) ∧
      ∀ i, i < m → ∃ (ys : List (DataW H × List MemPlace)) (n : Nat), D i = .agg (ys.map (·.1)) ∧ Pl i = ys.flatMap (·.2) ∧ ys.length = fs.size ∧
        ∀ (j : Nat) (f : Field), fs[j]? = some f → ∃ (v : Value) (y : DataW H × List MemPlace), w.cell? (a.add (i * fs.size + j)) = some v ∧ ys[j]? = some y ∧ DataW.trod enc P w base spare held n f.type [v] = some y := by
  rcases open_slice ht h with h0 | ⟨a, len, cap, m, n, D, Pl, hcs, hb, hl, hm, hmm, hx, hi⟩
  · exact .inl h0
  · refine .inr ⟨a, len, cap, m, D, Pl, hcs, hb, hl, hm, hmm, by rw [hC] at hx; exact hx, fun i him => ?_⟩
    obtain ⟨cs', hc, ht'⟩ := hi i him
    rw [hC] at hc
    obtain ⟨ys, n', hn', hy, hlen, hyl, hf⟩ := DataW.trod_struct he ht'
    obtain ⟨_, hcl, hat⟩ := World.cells?_some hc
    simp only [Prod.mk.injEq] at hy
    refine ⟨ys, n', hy.1, hy.2, hyl, fun j f hj => ?_⟩
    obtain ⟨ho, hk⟩ := hone_of hone j f hj
    have hjl : j < fs.size := (Array.getElem?_eq_some_iff.1 hj).1
    have hcell := hat j hjl
    have hv : cs'[j]? = some (cs'[j]'(by omega)) := List.getElem?_eq_getElem (by omega)
    have h1 := hf j f hj
    rw [ho, hk] at h1
    have hone' : (cs'.drop j).take 1 = [cs'[j]'(by omega)] := by
      rw [List.drop_eq_getElem_cons (by omega)]
      rfl
    rw [hone'] at h1
    have hys : ys[j]? = some (ys[j]'(by omega)) := List.getElem?_eq_getElem (by omega)
    refine ⟨_, _, ?_, hys, h1.trans hys⟩
    rw [← Go.Deep.add_add, hcell, hv]
end
/-- Two numbers lie at an address. -/
def w2 (W : World) (ad : Addr) (s : Int × Int) : Prop := W.cell? ad = some (.int .i64 s.1) ∧ W.cell? ⟨ad.block, ad.off + 1, none⟩ = some (.int .i64 s.2)
theorem acts_row {H : Type} {enc : TypeId × Value → H} {W : World} {fuel : Nat} {cs : List Value} {x : DataW H × List MemPlace}
    (h : DataW.trod enc Try.prog W 0 (fun _ => true) true fuel 40 cs = some x) :
    ∃ (A : Option Addr) (n c : Nat) (l : List (Int × Int)), cs = [.slice A n c] ∧ l.length = n ∧ n ≤ c ∧ l.length ≤ 9223372036854775807 ∧ ActsAt W A l := by
  rcases open_slice_fields Try.underlying40 Try.underlying44 (by kernel_rfl) (by kernel_rfl) h with ⟨rfl, _⟩ | ⟨a, len, cap, m, D, Pl, rfl, hb, hlc, hcm, hm, hx, hi⟩
  · exact ⟨none, 0, 0, [], rfl, rfl, Nat.le_refl _, by decide, fun i h => absurd h (by simp)⟩
  · have hmx : maxLen = 9223372036854775807 := rfl
    have hml : len ≤ m := by rw [hm]; simp only [if_true]; omega
    have one : ∀ i, ∃ s : Int × Int, i < len → w2 W (a.add (i * 2)) s := by
      intro i
      by_cases hil : i < len
      · obtain ⟨ys, n, _, _, hyl, hf⟩ := hi i (by omega)
        obtain ⟨v0, y0, c0, _, t0⟩ := hf 0 _ rfl
        obtain ⟨v1, y1, c1, _, t1⟩ := hf 1 _ rfl
        obtain ⟨n0, e0, _, _⟩ := DataW.trod_int Try.underlying3 t0
        obtain ⟨n1, e1, _, _⟩ := DataW.trod_int Try.underlying3 t1
        obtain rfl := List.singleton_inj.1 e0
        obtain rfl := List.singleton_inj.1 e1
        exact ⟨(n0, n1), fun _ => ⟨c0, by rw [← add_field _ _ 1 (by omega)]; exact c1⟩⟩
      · exact ⟨(0, 0), fun h => absurd h hil⟩
    refine ⟨some a, len, cap, (List.range len).map (fun i => (one i).choose), rfl, by simp, hlc, by simp; omega, fun i h => ?_⟩
    have hil : i < len := by simpa using h
    have := (one i).choose_spec hil
    refine ⟨a, rfl, ?_, ?_⟩
    · simpa using this.1
    · simpa using this.2
/-- ReadersGuard's walk, as the row hands it its list. -/
theorem guard_row {A : Option Addr} {n c : Nat} {l : List (Int × Int)} {w : World} (p : l.length = n ∧ n ≤ c ∧ l.length ≤ 9223372036854775807 ∧ ActsAt w A l) (x now : Int) : Calls Try.prog 6 #[.slice A n c, .int .i64 x, .int .i64 now] w (YesPost w) := by
  obtain ⟨rfl, h1, h2, h3⟩ := p
  exact guard_calls A c l x now w h2 h1 h3
end Go.Proofs.Ytjbkkmgkckopdaa.Rd
