/- An act that came in, opened. -/
import Derived.Test.YtjbkkmgkckopdaaDoorNil
import Derived.WalkKit
import Derived.ProofKit
import Derived.OpenShut
import Derived.Deep.Slices
import Derived.Deep.Fields
namespace Go.Proofs.YtjbkkmgkckopdaaDoor.Pg
open Go.Proofs.YtjbkkmgkckopdaaDoorW.PrintWords Go.ChangeShapes Go.WideShapes Go.ChangeAt Go.RowKit Go.Deep
set_option linter.unusedVariables false
section
variable {H : Type} {enc : TypeId × Value → H} {W : World}
theorem open_struct_fields {P : Program} {w : World} {base : Nat} {spare : Nat → Bool} {held : Bool} {t : TypeId} {fs : Array Field} {fuel : Nat} {cs : List Value} {x : DataW H × List MemPlace} (ht : P.underlying t = some (.struct fs))
    (hone : oneCellFields P fs = true) (hC : P.cellsOf t = fs.size) (h : DataW.trod enc P w base spare held fuel t cs = some x) :
    ∃ n, cs.length = fs.size ∧ ∀ (j : Nat) (f : Field), fs[j]? = some f → ∃ (v : Value) (y : DataW H × List MemPlace), cs[j]? = some v ∧ DataW.trod enc P w base spare held n f.type [v] = some y := by
  obtain ⟨ys, n, _, hy, hlen, hyl, hf⟩ := DataW.trod_struct ht h
  have hl := hlen.trans hC
  refine ⟨n, hl, fun j f hj => ?_⟩
  obtain ⟨ho, hk⟩ := hone_of hone j f hj
  have hjl : j < fs.size := (Array.getElem?_eq_some_iff.1 hj).1
  have h1 := hf j f hj
  rw [ho, hk] at h1
  have hone' : (cs.drop j).take 1 = [cs[j]'(by omega)] := by
    rw [List.drop_eq_getElem_cons (by omega)]
    rfl
  rw [hone'] at h1
  exact ⟨_, _, List.getElem?_eq_getElem (by omega), h1.trans (List.getElem?_eq_getElem (by omega))⟩
theorem open_page {fuel : Nat} {v0 v1 v2 v3 : Value} {x : DataW H × List MemPlace} (h : DataW.trod enc Tryd.prog W 0 (fun _ => true) true fuel 42 [v0, v1, v2, v3] = some x) :
    ∃ (a b c : Int) (s : ByteArray), v0 = .int .i64 a ∧ v1 = .int .i64 b ∧ v2 = .int .i64 c ∧ v3 = .string s := by
  obtain ⟨n, hl, hf⟩ := open_struct_fields Tryd.underlying42 (by kernel_rfl) (by kernel_rfl) h
  obtain ⟨u0, y0, c0, t0⟩ := hf 0 _ rfl
  obtain ⟨u1, y1, c1, t1⟩ := hf 1 _ rfl
  obtain ⟨u2, y2, c2, t2⟩ := hf 2 _ rfl
  obtain ⟨u3, y3, c3, t3⟩ := hf 3 _ rfl
  obtain rfl := Option.some.inj c0
  obtain rfl := Option.some.inj c1
  obtain rfl := Option.some.inj c2
  obtain rfl := Option.some.inj c3
  obtain ⟨n0, e0, _, _⟩ := DataW.trod_int Tryd.underlying3 t0
  obtain ⟨n1, e1, _, _⟩ := DataW.trod_int Tryd.underlying3 t1
  obtain ⟨n2, e2, _, _⟩ := DataW.trod_int Tryd.underlying3 t2
  obtain ⟨n3, e3, _, _⟩ := DataW.trod_string Tryd.underlying9 t3
  exact ⟨n0, n1, n2, n3, List.singleton_inj.1 e0, List.singleton_inj.1 e1, List.singleton_inj.1 e2, List.singleton_inj.1 e3⟩
theorem open_meta {fuel : Nat} {v0 v1 v2 v3 v4 : Value} {x : DataW H × List MemPlace} (h : DataW.trod enc Tryd.prog W 0 (fun _ => true) true fuel 32 [v0, v1, v2, v3, v4] = some x) :
    ∃ (a b c d e : Int), v0 = .int .i64 a ∧ v1 = .int .i64 b ∧ v2 = .int .i64 c ∧ v3 = .int .i64 d ∧ v4 = .int .i64 e := by
  obtain ⟨n, hl, hf⟩ := open_struct_fields Tryd.underlying32 (by kernel_rfl) (by kernel_rfl) h
  obtain ⟨u0, y0, c0, t0⟩ := hf 0 _ rfl
  obtain ⟨u1, y1, c1, t1⟩ := hf 1 _ rfl
  obtain ⟨u2, y2, c2, t2⟩ := hf 2 _ rfl
  obtain ⟨u3, y3, c3, t3⟩ := hf 3 _ rfl
  obtain ⟨u4, y4, c4, t4⟩ := hf 4 _ rfl
  obtain rfl := Option.some.inj c0
  obtain rfl := Option.some.inj c1
  obtain rfl := Option.some.inj c2
  obtain rfl := Option.some.inj c3
  obtain rfl := Option.some.inj c4
  obtain ⟨n0, e0, _, _⟩ := DataW.trod_int Tryd.underlying3 t0
  obtain ⟨n1, e1, _, _⟩ := DataW.trod_int Tryd.underlying3 t1
  obtain ⟨n2, e2, _, _⟩ := DataW.trod_int Tryd.underlying3 t2
  obtain ⟨n3, e3, _, _⟩ := DataW.trod_int Tryd.underlying3 t3
  obtain ⟨n4, e4, _, _⟩ := DataW.trod_int Tryd.underlying3 t4
  exact ⟨n0, n1, n2, n3, n4, List.singleton_inj.1 e0, List.singleton_inj.1 e1, List.singleton_inj.1 e2, List.singleton_inj.1 e3, List.singleton_inj.1 e4⟩
theorem open_slot {fuel : Nat} {v : Value} {x : DataW H × List MemPlace} (h : DataW.trod enc Tryd.prog W 0 (fun _ => true) true fuel 43 [v] = some x) : ∃ p n c, v = .slice p n c := by
  rcases open_slice Tryd.underlying43 h with ⟨e, _⟩ | ⟨a, len, cap, m, n, D, Pl, e, _⟩
  · exact ⟨none, 0, 0, List.singleton_inj.1 e⟩
  · exact ⟨some a, len, cap, List.singleton_inj.1 e⟩
set_option maxRecDepth 100000 in
theorem open_na {fuel : Nat} {cs : List Value} {x : DataW H × List MemPlace} (h : DataW.trod enc Tryd.prog W 0 (fun _ => true) true fuel 45 cs = some x) :
    ∃ (a : NA) (P : Option Addr) (c : Nat), cs = (a.cells P c).toList ∧ True := by
  obtain ⟨ys, n, _, hy, hlen, hyl, hf⟩ := DataW.trod_struct Tryd.underlying45 h
  have hC : Tryd.prog.cellsOf 45 = 14 := by kernel_rfl
  rw [hC] at hlen
  have k3 : Tryd.prog.cellsOf 3 = 1 := by kernel_rfl
  have k4 : Tryd.prog.cellsOf 4 = 1 := by kernel_rfl
  have k9 : Tryd.prog.cellsOf 9 = 1 := by kernel_rfl
  have kp : Tryd.prog.cellsOf 42 = 4 := by kernel_rfl
  have km : Tryd.prog.cellsOf 32 = 5 := by kernel_rfl
  have ks : Tryd.prog.cellsOf 43 = 1 := by kernel_rfl
  have some' : ∀ j, j < 7 → ∃ y, ys[j]? = some y := fun j hj => ⟨_, List.getElem?_eq_getElem (by rw [hyl]; exact hj)⟩
  have t0 : DataW.trod enc Tryd.prog W 0 (fun _ => true) true n 3 ((cs.drop 0).take (Tryd.prog.cellsOf 3)) = ys[0]? := hf 0 _ rfl
  have t1 : DataW.trod enc Tryd.prog W 0 (fun _ => true) true n 42 ((cs.drop 1).take (Tryd.prog.cellsOf 42)) = ys[1]? := hf 1 _ rfl
  have t2 : DataW.trod enc Tryd.prog W 0 (fun _ => true) true n 32 ((cs.drop 5).take (Tryd.prog.cellsOf 32)) = ys[2]? := hf 2 _ rfl
  have t3 : DataW.trod enc Tryd.prog W 0 (fun _ => true) true n 4 ((cs.drop 10).take (Tryd.prog.cellsOf 4)) = ys[3]? := hf 3 _ rfl
  have t4 : DataW.trod enc Tryd.prog W 0 (fun _ => true) true n 3 ((cs.drop 11).take (Tryd.prog.cellsOf 3)) = ys[4]? := hf 4 _ rfl
  have t5 : DataW.trod enc Tryd.prog W 0 (fun _ => true) true n 9 ((cs.drop 12).take (Tryd.prog.cellsOf 9)) = ys[5]? := hf 5 _ rfl
  have t6 : DataW.trod enc Tryd.prog W 0 (fun _ => true) true n 43 ((cs.drop 13).take (Tryd.prog.cellsOf 43)) = ys[6]? := hf 6 _ rfl
  obtain ⟨y0, z0⟩ := some' 0 (by omega)
  obtain ⟨y1, z1⟩ := some' 1 (by omega)
  obtain ⟨y2, z2⟩ := some' 2 (by omega)
  obtain ⟨y3, z3⟩ := some' 3 (by omega)
  obtain ⟨y4, z4⟩ := some' 4 (by omega)
  obtain ⟨y5, z5⟩ := some' 5 (by omega)
  obtain ⟨y6, z6⟩ := some' 6 (by omega)
  rw [z0] at t0
  rw [z1] at t1
  rw [z2] at t2
  rw [z3] at t3
  rw [z4] at t4
  rw [z5] at t5
  rw [z6] at t6
  rw [k3] at t0 t4
  rw [kp] at t1
  rw [km] at t2
  rw [k4] at t3
  rw [k9] at t5
  rw [ks] at t6
  match cs, hlen with
  | [v0, v1, v2, v3, v4, v5, v6, v7, v8, v9, v10, v11, v12, v13], _ =>
    obtain ⟨n0, e0, _, _⟩ := DataW.trod_int Tryd.underlying3 t0
    obtain ⟨p1, p2, p3, p4, f1, f2, f3, f4⟩ := open_page t1
    obtain ⟨m1, m2, m3, m4, m5, g1, g2, g3, g4, g5⟩ := open_meta t2
    obtain ⟨b3, e3, _⟩ := DataW.trod_bool Tryd.underlying4 t3
    obtain ⟨n4, e4, _, _⟩ := DataW.trod_int Tryd.underlying3 t4
    obtain ⟨n5, e5, _, _⟩ := DataW.trod_string Tryd.underlying9 t5
    obtain ⟨q, l6, c6, e6⟩ := open_slot t6
    obtain rfl := List.singleton_inj.1 e0
    obtain rfl := List.singleton_inj.1 e3
    obtain rfl := List.singleton_inj.1 e4
    obtain rfl := List.singleton_inj.1 e5
    subst f1 f2 f3 f4 g1 g2 g3 g4 g5 e6
    exact ⟨⟨n0, p1, p2, p3, p4, ⟨m1, m2, m3, m4, m5⟩, b3, n4, n5, l6⟩, q, c6, rfl, trivial⟩
end
end Go.Proofs.YtjbkkmgkckopdaaDoor.Pg
