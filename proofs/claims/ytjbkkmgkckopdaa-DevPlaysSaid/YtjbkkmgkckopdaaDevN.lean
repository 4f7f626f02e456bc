/- An act that came in: opened. -/
import Derived.Test.YtjbkkmgkckopdaaDevM
import Derived.WalkKit
import Derived.ProofKit
import Derived.OpenShut
import Derived.Deep.Slices
import Derived.Deep.Fields
namespace Go.Proofs.Ytjbkkmgkckopdaa.Dv
open Go.Proofs.YtjbkkmgkckopdaaW.PrintWords Go.ChangeShapes Go.WideShapes Go.ChangeAt Go.RowKit Go.Deep
set_option linter.unusedVariables false
/-- Ints lie at an address. -/
def IntsAt (w : World) (p : Option Addr) (xs : List Int) : Prop := ∀ j (h : j < xs.length), ∃ a, p = some a ∧ w.cell? (a.add j) = some (.int .i64 xs[j])
theorem IntsAt.ints {w w0 : World} {p : Option Addr} {xs : List Int} (h : IntsAt w0 p xs) (hb : Below w0.heap.size w0 w) : Ints w (Fr w0) p xs := fun j hj => by
  obtain ⟨a, h1, h2⟩ := h j hj
  have hlt := World.block_lt_of_cell? w0 _ h2
  exact ⟨a, h1, (hb.cell hlt).trans h2, fun h3 => by unfold Fr at h3; omega⟩
def ActOk (w : World) (a : A) (p : Option Addr) : Prop := IntsAt w p a.picks ∧ a.n ≤ 9223372036854775807 ∧ a.picks.length ≤ 9223372036854775807
section
variable {H : Type} {enc : TypeId × Value → H} {W : World}
theorem open_struct_fields {P : Program} {w : World} {base : Nat} {spare : Nat → Bool} {held : Bool} {t : TypeId} {fs : Array Field} {fuel : Nat} {cs : List Value} {x : DataW H × List MemPlace} (ht : P.underlying t = some (.struct fs))
    (hone : oneCellFields P fs = true) (hC : P.cellsOf t = fs.size) (h : DataW.trod enc P w base spare held fuel t cs = some x) :
    ∃ n, cs.length = fs.size ∧ ∀ (j : Nat) (f : Field), fs[j]? = some f → ∃ (v : Value) (y : DataW H × List MemPlace), cs[j]? = some v ∧ DataW.trod enc P w base spare held n f.type [v] = some y := by
  obtain ⟨ys, n, _, hy, hlen, hyl, hf⟩ := DataW.trod_struct ht h
  have hl := hlen.trans hC
  refine ⟨n, hl, fun j f hj => ?_⟩
  obtain ⟨ho, hk⟩ := hone_of hone j f hj
  have hjl : j < fs.size := (Array.getElem?_eq_some_iff.1 hj).1
  have h1 := hf j f hj
  rw [ho, hk] at h1
  have hone' : (cs.drop j).take 1 = [cs[j]'(by omega)] := by
    rw [List.drop_eq_getElem_cons (by omega)]
    rfl
  rw [hone'] at h1
  exact ⟨_, _, List.getElem?_eq_getElem (by omega), h1.trans (List.getElem?_eq_getElem (by omega))⟩
theorem ints_open {fuel : Nat} {cs : List Value} {x : DataW H × List MemPlace} (h : DataW.trod enc Try.prog W 0 (fun _ => true) true fuel 55 cs = some x) :
    ∃ (p : Option Addr) (c : Nat) (l : List Int), cs = [.slice p l.length c] ∧ l.length ≤ 9223372036854775807 ∧ IntsAt W p l := by
  rcases open_slice Try.underlying55 h with ⟨rfl, _⟩ | ⟨a, len, cap, m, n, D, Pl, rfl, hb, hlc, hcm, hm, hx, hi⟩
  · exact ⟨none, 0, [], rfl, by simp, fun j hj => absurd hj (by simp)⟩
  · have hmx : maxLen = 9223372036854775807 := rfl
    have hml : len ≤ m := by rw [hm]; simp only [if_true]; omega
    have hC : Try.prog.cellsOf 3 = 1 := by kernel_rfl
    have one : ∀ i, ∃ s : Int, i < len → W.cell? (a.add i) = some (.int .i64 s) := by
      intro i
      by_cases hil : i < len
      · obtain ⟨cs', hc, ht⟩ := hi i (by omega)
        rw [hC] at hc
        obtain ⟨s, rfl, _, _⟩ := DataW.trod_int Try.underlying3 ht
        obtain ⟨_, _, hat⟩ := World.cells?_some hc
        refine ⟨s, fun _ => ?_⟩
        have := hat 0 (by omega)
        rw [Nat.mul_one] at this
        rw [Go.Deep.add_add, Nat.add_zero] at this
        exact this
      · exact ⟨0, fun h => absurd h hil⟩
    refine ⟨some a, cap, (List.range len).map (fun i => (one i).choose), by simp, by simp; omega, fun j h => ?_⟩
    have hil : j < len := by simpa using h
    have := (one j).choose_spec hil
    exact ⟨a, rfl, by simpa using this⟩
theorem act_fields {n : Nat} {v0 v1 v2 v3 v4 v5 : Value} {y0 y1 y2 y3 y4 y5 : DataW H × List MemPlace} (t0 : DataW.trod enc Try.prog W 0 (fun _ => true) true n 3 [v0] = some y0) (t1 : DataW.trod enc Try.prog W 0 (fun _ => true) true n 3 [v1] = some y1)
    (t2 : DataW.trod enc Try.prog W 0 (fun _ => true) true n 3 [v2] = some y2) (t3 : DataW.trod enc Try.prog W 0 (fun _ => true) true n 5 [v3] = some y3) (t4 : DataW.trod enc Try.prog W 0 (fun _ => true) true n 9 [v4] = some y4) (t5 : DataW.trod enc Try.prog W 0 (fun _ => true) true n 55 [v5] = some y5) :
    ∃ (a : A) (p : Option Addr) (pc : Nat), #[v0, v1, v2, v3, v4, v5] = a.cells p pc ∧ ActOk W a p := by
  obtain ⟨n0, e0, _, _⟩ := DataW.trod_int Try.underlying3 t0
  obtain ⟨n1, e1, _, _⟩ := DataW.trod_int Try.underlying3 t1
  obtain ⟨n2, e2, _, w2⟩ := DataW.trod_int Try.underlying3 t2
  obtain ⟨n3, e3, _, _⟩ := DataW.trod_int Try.underlying5 t3
  obtain ⟨n4, e4, _, _⟩ := DataW.trod_string Try.underlying9 t4
  obtain ⟨p, pc, l, e5, h1, h2⟩ := ints_open t5
  obtain rfl := List.singleton_inj.1 e0
  obtain rfl := List.singleton_inj.1 e1
  obtain rfl := List.singleton_inj.1 e2
  obtain rfl := List.singleton_inj.1 e3
  obtain rfl := List.singleton_inj.1 e4
  obtain rfl := List.singleton_inj.1 e5
  unfold Lit.wf at w2
  rw [Bool.and_eq_true, decide_eq_true_eq, decide_eq_true_eq] at w2
  exact ⟨⟨n0, n1, n2, n3, n4, l⟩, p, pc, rfl, h2, w2.2, h1⟩
theorem open_act {fuel : Nat} {cs : List Value} {x : DataW H × List MemPlace} (h : DataW.trod enc Try.prog W 0 (fun _ => true) true fuel 67 cs = some x) :
    ∃ (a : A) (p : Option Addr) (pc : Nat), cs = (a.cells p pc).toList ∧ ActOk W a p := by
  obtain ⟨n, hl, hf⟩ := open_struct_fields Try.underlying67 (by kernel_rfl) (by kernel_rfl) h
  obtain ⟨v0, y0, c0, t0⟩ := hf 0 _ rfl
  obtain ⟨v1, y1, c1, t1⟩ := hf 1 _ rfl
  obtain ⟨v2, y2, c2, t2⟩ := hf 2 _ rfl
  obtain ⟨v3, y3, c3, t3⟩ := hf 3 _ rfl
  obtain ⟨v4, y4, c4, t4⟩ := hf 4 _ rfl
  obtain ⟨v5, y5, c5, t5⟩ := hf 5 _ rfl
  obtain ⟨a, p, pc, e, hA⟩ := act_fields t0 t1 t2 t3 t4 t5
  refine ⟨a, p, pc, ?_, hA⟩
  rw [← e]
  match cs, hl with
  | [x0, x1, x2, x3, x4, x5], _ =>
    obtain rfl := Option.some.inj c0
    obtain rfl := Option.some.inj c1
    obtain rfl := Option.some.inj c2
    obtain rfl := Option.some.inj c3
    obtain rfl := Option.some.inj c4
    obtain rfl := Option.some.inj c5
    rfl
/-- An act that lies at an address. -/
def ActAt (W : World) (ad : Addr) (a : A) (p : Option Addr) (pc : Nat) : Prop := ActOk W a p ∧ ∀ j (h : j < (a.cells p pc).size), W.cell? (ad.add j) = some (a.cells p pc)[j]
/-- An act, and where its picks lie. -/
structure Act3 where
  a : A
  p : Option Addr
  pc : Nat
/-- Acts lie in a row. -/
def ActsAt (W : World) (q : Option Addr) (l : List Act3) : Prop := ∀ i (h : i < l.length), ∃ ad, q = some ad ∧ ActAt W (ad.add (i * 6)) l[i].a l[i].p l[i].pc
theorem acts_open {fuel : Nat} {cs : List Value} {x : DataW H × List MemPlace} (h : DataW.trod enc Try.prog W 0 (fun _ => true) true fuel 59 cs = some x) :
    ∃ (q : Option Addr) (n c : Nat) (l : List Act3), cs = [.slice q n c] ∧ l.length = n ∧ l.length ≤ 9223372036854775807 ∧ ActsAt W q l := by
  rcases open_slice Try.underlying59 h with ⟨rfl, _⟩ | ⟨a, len, cap, m, n, D, Pl, rfl, hb, hlc, hcm, hm, hx, hi⟩
  · exact ⟨none, 0, 0, [], rfl, rfl, by simp, fun j hj => absurd hj (by simp)⟩
  · have hmx : maxLen = 9223372036854775807 := rfl
    have hml : len ≤ m := by rw [hm]; simp only [if_true]; omega
    have hC : Try.prog.cellsOf 67 = 6 := by kernel_rfl
    have one : ∀ i, ∃ s : Act3, i < len → ActAt W (a.add (i * 6)) s.a s.p s.pc := by
      intro i
      by_cases hil : i < len
      · obtain ⟨cs', hc, ht⟩ := hi i (by omega)
        rw [hC] at hc
        obtain ⟨a', p', pc', rfl, hA⟩ := open_act ht
        obtain ⟨_, _, hat⟩ := World.cells?_some hc
        refine ⟨⟨a', p', pc'⟩, fun _ => ⟨hA, fun j hj => ?_⟩⟩
        have := hat j (by simpa [A.cells] using hj)
        rw [this, Array.getElem?_toList, Array.getElem?_eq_getElem hj]
      · exact ⟨⟨⟨0, 0, 0, 0, ByteArray.empty, []⟩, none, 0⟩, fun h => absurd h hil⟩
    refine ⟨some a, len, cap, (List.range len).map (fun i => (one i).choose), rfl, by simp, by simp; omega, fun j h => ?_⟩
    have hil : j < len := by simpa using h
    have := (one j).choose_spec hil
    exact ⟨a, rfl, by simpa using this⟩
end
end Go.Proofs.Ytjbkkmgkckopdaa.Dv
