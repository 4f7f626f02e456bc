/- A slice of strings that begins anywhere in its row; the device beside it. -/
import Derived.Test.YtjbkkmgkckopdaaDevO
import Derived.Deep.AppendLies
namespace Go.Proofs.Ytjbkkmgkckopdaa.Dv
open Go.WideShapes (bytes_inj)
open Go.RowKit Go.Proofs.YtjbkkmgkckopdaaW.PrintWords Go.Proofs.YtjbkkmgkckopdaaW.PrintLast Go.Proofs.YtjbkkmgkckopdaaW.PrintMore Go.Proofs.Ytjbkkmgkckopdaa.Mem
set_option linter.unusedVariables false
set_option linter.unusedSimpArgs false
theorem run_append_off {P : Program} (w : World) (t ty e : TypeId) (i : TypeInfo) (ht : P.underlying t = some (.slice e)) (hi : P.info? e = some i) (hz : i.size = 1)
    (g off sLen sCap : Nat) (cur : Array Value) (hg : w.heap[g]? = some (.cells cur e (0, 0)))
    (a : Addr) (m c : Nat) (news : List Value) (hl : news.length = m * i.size) (hnews : ∀ j u, news[j]? = some u → w.cell? (a.add j) = some u) (h1 : ∀ u ∈ news, u.oneCell' = true)
    (hroom : sLen + m ≤ sCap) (hfit : off + sLen + news.length ≤ cur.size) :
    (Builtin.append_ #[t, t] ty #[.slice (some ⟨g, off, none⟩) sLen sCap, .slice (some a) m c]).run P w =
      .ok (.slice (some ⟨g, off, none⟩) (sLen + m) sCap) (w.setRow g (cur.toList.take (off + sLen) ++ news ++ cur.toList.drop (off + sLen + news.length)).toArray) := by
  have hf := run_firstCells_some (P := P) w i.size m a m c news hl hnews
  have hst := run_storeCells_at P g (off + sLen) e news 0 cur w hg (by simpa using hfit) h1
  simp only [Nat.add_zero] at hst
  have e2 : (⟨g, off, none⟩ : Addr).add sLen = ⟨g, off + sLen, none⟩ := Go.WideShapes.add_plain _ _ _
  rw [hz] at hf
  simp [Builtin.append_, run_underlying ht, sizeOf, typeInfo, hi, Builtin.lenOf, hroom, hf, hz, e2, hst]
/-- A slice of strings: where it lies, and what it holds. -/
def MayAt (w : World) (b off cap : Nat) (xs : List S) : Prop := ∃ cur : Array Value, w.heap[b]? = some (.cells cur 9 (0, 0)) ∧ cur.size = off + cap ∧ (cur.toList.drop off).take xs.length = pw_strs xs ∧ xs.length ≤ cap ∧ cap ≤ maxLen
theorem MayAt.cell {w : World} {b off cap : Nat} {xs : List S} (h : MayAt w b off cap xs) (j : Nat) (hj : j < xs.length) : w.cell? ⟨b, off + j, none⟩ = some (.string xs[j]) := by
  obtain ⟨cur, hb, hs, ht, hx, hm⟩ := h
  rw [cell_of_row _ _ _ _ _ _ hb, ← Array.getElem?_toList]
  have e : ((cur.toList.drop off).take xs.length)[j]? = (pw_strs xs)[j]? := by rw [ht]
  rw [List.getElem?_take_of_lt hj, List.getElem?_drop] at e
  rw [e, pw_strs, List.getElem?_map, List.getElem?_eq_getElem hj]
  rfl
theorem MayAt.keep {w w1 : World} {b off cap : Nat} {xs : List S} (h : MayAt w b off cap xs) (hb : w1.heap[b]? = w.heap[b]?) : MayAt w1 b off cap xs := by
  obtain ⟨cur, h1, h2⟩ := h
  exact ⟨cur, hb.trans h1, h2⟩
theorem MayAt.lt {w : World} {b off cap : Nat} {xs : List S} (h : MayAt w b off cap xs) : b < w.heap.size := by
  obtain ⟨cur, h1, h2⟩ := h
  exact blk_lt h1
/-- The last one alone. -/
theorem MayAt.last {w : World} {b off cap n : Nat} {xs : List S} (h : MayAt w b off cap xs) (hn : xs.length = n + 1) : MayAt w b (off + n) (cap - n) [xs[n]] := by
  obtain ⟨cur, h1, h2, h3, h4, h5⟩ := h
  refine ⟨cur, h1, by omega, ?_, by simp; omega, by omega⟩
  have e : (((cur.toList.drop off).take xs.length).drop n).take 1 = ((pw_strs xs).drop n).take 1 := by rw [h3]
  rw [List.drop_take, List.drop_drop, List.take_take, show min 1 (xs.length - n) = 1 by omega] at e
  rw [List.length_singleton, e, pw_strs, ← List.map_drop, List.drop_eq_getElem_cons (by omega)]
  rfl
theorem may_one (w : World) (s : S) : MayAt (w.alloc (.cells #[.string s] 9)) w.heap.size 0 1 [s] := ⟨#[.string s], blk_new _ _, rfl, rfl, Nat.le_refl _, by rw [maxLen]; omega⟩
theorem run_append_may {w : World} {b off cap : Nat} {xs : List S} (h : MayAt w b off cap xs) (c : Nat) (s : S) (hc : w.cell? ⟨c, 0, none⟩ = some (.string s)) (hx : xs.length < 1000000) (ty : TypeId) :
    ∃ b' off' cap' w', (Builtin.append_ #[64, 64] ty #[.slice (some ⟨b, off, none⟩) xs.length cap, .slice (some ⟨c, 0, none⟩) 1 1]).run Try.prog w = .ok (.slice (some ⟨b', off', none⟩) (xs.length + 1) cap') w' ∧ MayAt w' b' off' cap' (xs ++ [s]) ∧ w.grownBy w' (some b) ∧ (b' = b ∨ b' = w.heap.size) := by
  obtain ⟨i, hi, hi2⟩ : ∃ i, Try.prog.info? 9 = some i ∧ (i.zero, i.size, i.bytes) = (some (.string ByteArray.empty), 1, 16) := by
    have := info9
    cases hh : Try.prog.info? 9 with
    | none => rw [hh] at this; cases this
    | some i => rw [hh] at this; exact ⟨i, rfl, by simpa using this⟩
  obtain ⟨hz, hs, hby⟩ : i.zero = some (.string ByteArray.empty) ∧ i.size = 1 ∧ i.bytes = 16 := by simpa using hi2
  have hnews : ∀ j u, ([.string s] : List Value)[j]? = some u → w.cell? ((⟨c, 0, none⟩ : Addr).add j) = some u := by
    intro j u hj
    cases j with
    | zero => rw [add_plain]; rw [← Option.some.inj hj]; exact hc
    | succ j => simp at hj
  obtain ⟨cur, hb, hsz, ht, hxc, hm⟩ := h
  by_cases hroom : xs.length + 1 ≤ cap
  · have hr := run_append_off w 64 ty 9 i Try.underlying64 hi hs b off xs.length cap cur hb ⟨c, 0, none⟩ 1 1 [.string s] (by rw [hs]; rfl) hnews (by simp [Value.oneCell']) hroom (by simp; omega)
    refine ⟨b, off, cap, _, hr, ⟨_, setRow_heap w b cur _ 9 _ hb, ?_, ?_, by simp; omega, hm⟩, ⟨rfl, rfl, rfl, by simp, fun k _ hk => setRow_other w b k _ (fun e => hk (by rw [e]))⟩, .inl rfl⟩
    · simp; omega
    · have hl1 : (cur.toList.take (off + xs.length)).length = off + xs.length := by simp; omega
      rw [List.toList_toArray, List.append_assoc, List.drop_append_of_le_length (by omega), List.length_append, List.length_singleton]
      rw [List.drop_take, show off + xs.length - off = xs.length by omega, ht]
      rw [List.take_append, List.take_of_length_le (by simp [pw_strs])]
      simp [pw_strs]
  · have hr := run_append_grow (P := Try.prog) w 64 ty 9 i _ Try.underlying64 hi hz ⟨b, off, none⟩ xs.length cap (pw_strs xs) (by rw [hs]; simp [pw_strs]) (fun j u hj => by
      have hjl : j < xs.length := by have := (List.getElem?_eq_some_iff.1 hj).1; simpa [pw_strs] using this
      rw [Go.WideShapes.add_plain]
      rw [pw_strs, List.getElem?_map, List.getElem?_eq_getElem hjl] at hj
      rw [← Option.some.inj hj]
      exact MayAt.cell ⟨cur, hb, hsz, ht, hxc, hm⟩ j hjl) ⟨c, 0, none⟩ 1 1 [.string s] (by rw [hs]; rfl) hnews (by omega) (by omega) (growslice_fits (by omega) (by rw [hby]; omega))
    have hge := grownCap_ge w (xs.length + 1) cap 9
    have hcm : grownCap w (xs.length + 1) cap 9 ≤ maxLen := grownCap_le_maxLen w (xs.length + 1) cap 9 (by rw [maxLen]; omega)
    refine ⟨w.heap.size, 0, _, _, hr, ⟨_, heap_alloc_new w.drew _, ?_, ?_, by simp; omega, hcm⟩, ⟨rfl, rfl, rfl, by simp, fun k hk _ => Below.heap_alloc w.drew _ k hk⟩, .inr rfl⟩
    · simp [size_zeroCells, pw_strs, Value.cells]; omega
    · simp [pw_strs, List.take_append]
      exact List.take_of_length_le (by simp)
end Go.Proofs.Ytjbkkmgkckopdaa.Dv
