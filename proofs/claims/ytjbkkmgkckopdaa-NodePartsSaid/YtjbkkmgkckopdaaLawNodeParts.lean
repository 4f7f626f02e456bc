/- Of a key all cells ahead of the place that Seek finds are less, all behind it greater; the place itself holds the key exactly where Seek says so (NodeParts): for cells that may be a leaf's; up to 200 cells with keys and values of up to 300 bytes, a key of up to 2000 bytes. -/
import Derived.Test.YtjbkkmgkckopdaaRows
import Derived.Test.YtjbkkmgkckopdaaPNx6
import Derived.Test.YtjbkkmgkckopdaaParts
import Derived.WalkKit
import Derived.ProofKit
import Derived.OpenShut
import Derived.ShutString
import Derived.ChangeOld
import Derived.Below
import Derived.SizedLaws
import Derived.Carry
import Derived.Deep.Slices
import Derived.Deep.Fields
import Derived.ChangeSame
namespace Go.Proofs.Ytjbkkmgkckopdaa.nodeParts
open Go.ChangeShapes Go.WideShapes Go.ChangeAt Go.RowKit Go.Deep
open Go.ChangeMaps (open_string shut_string)
open Go.Proofs.Ytjbkkmgkckopdaa.PN Go.Proofs.YtjbkkmgkckopdaaW.PrintWords
set_option linter.unusedVariables false
section
variable {H : Type} {enc : TypeId × Value → H} {P : Program} {w : World} {base : Nat} {spare : Nat → Bool} {held : Bool}
theorem open_slice_fields {t e : TypeId} {fs : Array Field} {fuel : Nat} {cs : List Value} {x : DataW H × List MemPlace} (ht : P.underlying t = some (.slice e)) (he : P.underlying e = some (.struct fs))
    (hone : oneCellFields P fs = true) (hC : P.cellsOf e = fs.size) (h : DataW.trod enc P w base spare held fuel t cs = some x) :
    (cs = [.slice none 0 0] ∧ x = (.nil, [])) ∨
    ∃ (a : Addr) (len cap m : Nat) (D : Nat → DataW H) (Pl : Nat → List MemPlace), cs = [.slice (some a) len cap] ∧ base ≤ a.block ∧ len ≤ cap ∧ cap ≤ maxLen ∧ m = (if spare a.block then cap else len) ∧
      x = (.slice ((List.range len).map D) ((List.range (m - len)).map fun j => D (len + j)), MemPlace.row a (m * fs.size) ++ (List.range m).flatMap Pl) ∧
      ∀ i, i < m → ∃ (ys : List (DataW H × List MemPlace)) (n : Nat), D i = .agg (ys.map (·.1)) ∧ Pl i = ys.flatMap (·.2) ∧ ys.length = fs.size ∧
        ∀ (j : Nat) (f : Field), fs[j]? = some f → ∃ (v : Value) (y : DataW H × List MemPlace), w.cell? (a.add (i * fs.size + j)) = some v ∧ ys[j]? = some y ∧ DataW.trod enc P w base spare held n f.type [v] = some y := by
  rcases open_slice ht h with h0 | ⟨a, len, cap, m, n, D, Pl, hcs, hb, hl, hm, hmm, hx, hi⟩
  · exact .inl h0
  · refine .inr ⟨a, len, cap, m, D, Pl, hcs, hb, hl, hm, hmm, by rw [hC] at hx; exact hx, fun i him => ?_⟩
    obtain ⟨cs', hc, ht'⟩ := hi i him
    rw [hC] at hc
    obtain ⟨ys, n', hn', hy, hlen, hyl, hf⟩ := DataW.trod_struct he ht'
    obtain ⟨_, hcl, hat⟩ := World.cells?_some hc
    simp only [Prod.mk.injEq] at hy
    refine ⟨ys, n', hy.1, hy.2, hyl, fun j f hj => ?_⟩
    obtain ⟨ho, hk⟩ := hone_of hone j f hj
    have hjl : j < fs.size := (Array.getElem?_eq_some_iff.1 hj).1
    have hcell := hat j hjl
    have hv : cs'[j]? = some (cs'[j]'(by omega)) := List.getElem?_eq_getElem (by omega)
    have h1 := hf j f hj
    rw [ho, hk] at h1
    have hone' : (cs'.drop j).take 1 = [cs'[j]'(by omega)] := by
      rw [List.drop_eq_getElem_cons (by omega)]
      rfl
    rw [hone'] at h1
    have hys : ys[j]? = some (ys[j]'(by omega)) := List.getElem?_eq_getElem (by omega)
    refine ⟨_, _, ?_, hys, h1.trans hys⟩
    rw [← Go.Deep.add_add, hcell, hv]
end
theorem own : ownKnob Try.prog.godebug = none := by kernel_rfl
/-- The cells of one element, as the printed texts read them. -/
theorem cells_row {H : Type} {enc : TypeId × Value → H} {W : World} {fuel : Nat} {cs : List Value} {x : DataW H × List MemPlace}
    (h : DataW.trod enc Try.prog W 0 (fun _ => true) true fuel 23 cs = some x) :
    ∃ (A : Option Addr) (n c : Nat) (l : List S35), cs = [.slice A n c] ∧ Kd.C k35 W A l.length l ∧ l.length = n ∧ n ≤ c ∧ l.length ≤ 9223372036854775807 := by
  rcases open_slice_fields Try.underlying23 Try.underlying35 (by kernel_rfl) (by kernel_rfl) h with ⟨rfl, _⟩ | ⟨a, len, cap, m, D, Pl, rfl, hb, hlc, hcm, hm, hx, hi⟩
  · exact ⟨none, 0, 0, [], rfl, ⟨rfl, by decide, fun h => absurd h (by decide)⟩, rfl, Nat.le_refl _, by decide⟩
  · have hmx : maxLen = 9223372036854775807 := rfl
    have hml : len ≤ m := by rw [hm]; simp only [if_true]; omega
    have one : ∀ i, ∃ s : S35, i < len → ∀ (j : Nat) (u : Value), [Value.string s.f0, .string s.f1, .int .i64 s.f2, .int .i64 s.f3, .int .i64 s.f4][j]? = some u → W.cell? (a.add (i * 5 + j)) = some u := by
      intro i
      by_cases hil : i < len
      · obtain ⟨ys, n, _, _, hyl, hf⟩ := hi i (by omega)
        obtain ⟨v0, y0, c0, _, t0⟩ := hf 0 _ rfl
        obtain ⟨v1, y1, c1, _, t1⟩ := hf 1 _ rfl
        obtain ⟨v2, y2, c2, _, t2⟩ := hf 2 _ rfl
        obtain ⟨v3, y3, c3, _, t3⟩ := hf 3 _ rfl
        obtain ⟨v4, y4, c4, _, t4⟩ := hf 4 _ rfl
        obtain ⟨s0, e0, _, _⟩ := DataW.trod_string Try.underlying9 t0
        obtain ⟨s1, e1, _, _⟩ := DataW.trod_string Try.underlying9 t1
        obtain ⟨n2, e2, _, _⟩ := DataW.trod_int Try.underlying3 t2
        obtain ⟨n3, e3, _, _⟩ := DataW.trod_int Try.underlying3 t3
        obtain ⟨n4, e4, _, _⟩ := DataW.trod_int Try.underlying3 t4
        obtain rfl := List.singleton_inj.1 e0
        obtain rfl := List.singleton_inj.1 e1
        obtain rfl := List.singleton_inj.1 e2
        obtain rfl := List.singleton_inj.1 e3
        obtain rfl := List.singleton_inj.1 e4
        refine ⟨⟨s0, s1, n2, n3, n4⟩, fun _ j u hu => ?_⟩
        match j, hu with
        | 0, hu => obtain rfl := Option.some.inj hu; exact c0
        | 1, hu => obtain rfl := Option.some.inj hu; exact c1
        | 2, hu => obtain rfl := Option.some.inj hu; exact c2
        | 3, hu => obtain rfl := Option.some.inj hu; exact c3
        | 4, hu => obtain rfl := Option.some.inj hu; exact c4
        | j + 5, hu => simp at hu
      · exact ⟨z35, fun h => absurd h hil⟩
    refine ⟨some a, len, cap, (List.range len).map (fun i => (one i).choose), rfl, ?_, by simp, hlc, by simp; omega⟩
    refine ⟨rfl, by simp; omega, fun _ => ⟨a, rfl, fun j p hp => ?_⟩⟩
    simp only [List.getElem?_map, Option.map_eq_some_iff] at hp
    obtain ⟨i, hi2, rfl⟩ := hp
    obtain ⟨hj, hji⟩ := List.getElem?_eq_some_iff.1 hi2
    simp only [List.length_range] at hj
    simp only [List.getElem_range] at hji
    subst hji
    refine ⟨[.string (one j).choose.f0, .string (one j).choose.f1, .int .i64 (one j).choose.f2, .int .i64 (one j).choose.f3, .int .i64 (one j).choose.f4], rfl, ?_, fun i u hu => (one j).choose_spec hj i u hu⟩
    exact ⟨_, _, rfl, rfl, ⟨_, _, rfl, rfl, ⟨_, _, rfl, rfl, ⟨_, _, rfl, rfl, rfl⟩⟩⟩⟩
set_option maxRecDepth 100000 in
theorem lifted (os : Os) (started : os.Started) (H : Type) (enc : TypeId × Value → H) :
    ReturnsInHanded {} Try.checked os 5 .any (Rows.nodePartsSpec.pre6 enc Try.prog Try.f5 Rows.nodePartsRow.domain false) (Rows.nodePartsSpec.post enc Try.prog Try.f5 false true false false) := by
  refine returnsInHanded_of_change_sized (C := Try.checked) own started (by kernel_rfl) Try.func5
    (ChangeSpec.witness6 (enc := enc) (C := Try.checked) false ⟨#[], #[.slice none 0 0, .string ByteArray.empty], []⟩ 8 (by kernel_rfl) (by kernel_rfl) (by kernel_rfl) (by kernel_rfl)) ?_
  intro W base args ds gs before hval0 hW hcnd hsz0 _
  have hval : ∀ (j : Nat) t v, Try.f5.params[j]? = some t → args[j]? = some v → Value.okWide Try.prog W .any base t v := hval0
  have hW' := hW
  obtain ⟨p, q, hA0, hV, rfl, hfz, hnd⟩ := hW
  have hA : DataW.TrodAll enc Try.prog W 0 (fun _ => true) true Try.f5.params.toList args.toList ds p := hA0
  rw [Try.params5] at hA hval
  obtain ⟨v0, vs0, d0, ds0, p0, q0, hargs, rfl, rfl, h0, r0⟩ := trodAll_cons hA
  obtain ⟨v1, vs1, d1, ds1, p1, q1, rfl, rfl, rfl, h1, r1⟩ := trodAll_cons r0
  obtain ⟨rfl, rfl, rfl⟩ := trodAll_nil r1
  obtain rfl : args = #[v0, v1] := by cases args; simp_all
  obtain ⟨rfl, rfl⟩ := trodVars_none hV
  obtain ⟨A1, n1, c1, rfl⟩ := okWide_slice Try.underlying23 (hval 0 23 v0 rfl rfl)
  obtain ⟨a1, rfl, rfl, rfl, y1⟩ := open_string Try.underlying9 (hval 1 9 v1 rfl rfl) h1
  have h0k := h0
  obtain ⟨fuel, hf⟩ := h0
  obtain ⟨A, n, c, l, hcs, hC, hn, hnc, hl⟩ := cells_row hf
  simp only [List.append_nil] at hW'
  have hlt : ∀ x ∈ p0, x.block < W.heap.size := fun x hx => hW'.lt x (by simpa using hx)
  have hargs : ∀ (W' : World), Below W.heap.size W W' → DataW.Trod enc Try.prog W' 0 (fun b => decide (b < W.heap.size)) true 23 (.slice A1 n1 c1) d0 p0 :=
    fun W' hn => Below.trod (by kernel_rfl) (by kernel_rfl) (of_decide_eq_true (by kernel_rfl)) h0k hn hlt
  have e1 : Value.slice A1 n1 c1 = Value.slice A n c := by simpa [Value.cells] using hcs
  injection e1 with e1 e2 e3
  subst e1; subst e2; subst e3
  clear hA0 hval0 hsz0
  subst hn
  refine (Pure.parts_calls l hl A1 c1 a1 W hC hnc).mono fun e W' ⟨he, bel⟩ => ?_
  subst he
  exact ⟨_, rfl, _, _, _, [], _, [], hW', trodAll_mk1 (shut_bool Try.underlying4 _), (trodAll_cons_mk (hargs _ bel) (trodAll_cons_mk (shut_string Try.underlying9 y1) trodAll_mk0)), rfl, bel.frame _, fun h => by cases h⟩
theorem over : Rows.nodePartsRow.holds Try.pinned (OpenSpec.ofChange Rows.nodePartsSpec) :=
  OpenClaim.holds_of_wide 5 Try.f5 rfl rfl rfl rfl rfl rfl rfl ⟨rfl, rfl, rfl, rfl, rfl⟩ rfl rfl rfl rfl rfl (by kernel_rfl) Try.func5 (by kernel_rfl)
    (of_decide_eq_true (by kernel_rfl)) (by unfold Func.isWrapper; first | (rw [if_pos (by decide +kernel)]; kernel_rfl) | (rw [if_neg (by decide +kernel)]; exact ⟨rfl, rfl⟩))
    (fun os started H enc _ => lifted os started H enc)
theorem proved : Rows.NodePartsSaid := over
#print axioms proved
end Go.Proofs.Ytjbkkmgkckopdaa.nodeParts
namespace Go.Proofs.Ytjbkkmgkckopdaa
/-- The row, under a short name, for the claim. -/
theorem nodeParts_holds : Rows.NodePartsSaid := nodeParts.proved
end Go.Proofs.Ytjbkkmgkckopdaa
