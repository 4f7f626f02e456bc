/- The device: what Start keeps, in plain Lean. -/
import Derived.Test.YtjbkkmgkckopdaaDoorDevF
namespace Go.Proofs.YtjbkkmgkckopdaaDoor.Dv
open Go.RowKit Go.Proofs.YtjbkkmgkckopdaaDoorW.PrintWords Go.Proofs.YtjbkkmgkckopdaaDoorW.PrintLast Go.Proofs.YtjbkkmgkckopdaaDoorW.PrintMore Go.Proofs.YtjbkkmgkckopdaaDoor.Mem
set_option linter.unusedVariables false
set_option linter.unusedSimpArgs false
/-- What a sector with writes keeps. -/
def kept (picks : List Int) (xs : List S) (k : Nat) (s : S) : S := if pick picks k xs.length = 0 then s else xs.getD (pick picks k xs.length - 1) s
theorem start_get (picks : List Int) (w : Nat → List S) : ∀ (l : List S) (i k j : Nat),
    (start picks w l i k)[j]? = (l[j]?).map (fun s => if w (i + j) = [] then s else kept picks (w (i + j)) (k + ((List.range' i j).filter (fun t => decide (w t ≠ []))).length) s)
  | [], i, k, j => by simp [start]
  | s :: r, i, k, 0 => by
    unfold start
    by_cases h : w i = []
    · rw [if_pos h]; simp [h]
    · rw [if_neg h]; simp [h, kept]
  | s :: r, i, k, j + 1 => by
    unfold start
    by_cases h : w i = []
    · rw [if_pos h, List.getElem?_cons_succ, start_get picks w r (i + 1) k j, List.getElem?_cons_succ, List.range'_succ, List.filter_cons_of_neg (by simp [h]), show i + 1 + j = i + (j + 1) by omega]
    · rw [if_neg h, List.getElem?_cons_succ, start_get picks w r (i + 1) (k + 1) j, List.getElem?_cons_succ, List.range'_succ, List.filter_cons_of_pos (by simp [h]), show i + 1 + j = i + (j + 1) by omega, List.length_cons]
      congr 1
      funext s
      rw [show ∀ a, k + 1 + a = k + (a + 1) by omega]
/-- The sectors with writes, rising. -/
def awaits (w : Nat → List S) (n : Nat) : List Nat := (List.range n).filter (fun t => decide (w t ≠ []))
theorem awaits_at (w : Nat → List S) (n i : Nat) (hi : i < n) (h : w i ≠ []) : (awaits w n)[((List.range' 0 i).filter (fun t => decide (w t ≠ []))).length]? = some i := by
  unfold awaits
  rw [← List.range_eq_range', show n = i + (1 + (n - i - 1)) by omega, List.range_add, List.filter_append, List.getElem?_append_right (Nat.le_refl _), Nat.sub_self, show 1 + (n - i - 1) = (n - i - 1) + 1 by omega, List.range_succ_eq_map, List.map_cons, List.filter_cons_of_pos (by simpa using h)]
  rfl
theorem awaits_mem (w : Nat → List S) (n i : Nat) : i ∈ awaits w n ↔ i < n ∧ w i ≠ [] := by
  unfold awaits
  rw [List.mem_filter, List.mem_range]
  simp
theorem awaits_rising (w : Nat → List S) (n : Nat) : (awaits w n).Pairwise (· < ·) := (List.pairwise_lt_range (n := n)).filter _
theorem awaits_nodup (w : Nat → List S) (n : Nat) : (awaits w n).Nodup := (awaits_rising w n).imp (fun h => Nat.ne_of_lt h)
/-- What lasts when the first j of them are done. -/
def Half (picks : List Int) (w : Nat → List S) (lasts : List S) (j : Nat) (ls : List S) : Prop :=
  ls.length = lasts.length ∧ ∀ i (hi : i < lasts.length), ((∀ t, t < j → (awaits w lasts.length)[t]? ≠ some i) → ls[i]? = lasts[i]?) ∧ (∀ t, t < j → (awaits w lasts.length)[t]? = some i → ls[i]? = some (kept picks (w i) t lasts[i]))
theorem half_start (picks : List Int) (w : Nat → List S) (lasts : List S) : Half picks w lasts 0 lasts := ⟨rfl, fun i hi => ⟨fun _ => rfl, fun t h => absurd h (Nat.not_lt_zero t)⟩⟩
theorem nodup_at {l : List Nat} (h : l.Nodup) {s t i : Nat} (hs : l[s]? = some i) (ht : l[t]? = some i) : s = t := by
  have ls := (List.getElem?_eq_some_iff.1 hs).1
  exact (List.getElem?_inj ls h).1 (hs.trans ht.symm)
theorem half_old {picks : List Int} {w : Nat → List S} {lasts ls : List S} {j i : Nat} (h : Half picks w lasts j ls) (hi : (awaits w lasts.length)[j]? = some i) : ls[i]? = lasts[i]? :=
  (h.2 i ((awaits_mem w _ i).1 (List.mem_of_getElem? hi)).1).1 (fun t ht e => by have := nodup_at (awaits_nodup w _) e hi; omega)
theorem half_step {picks : List Int} {w : Nat → List S} {lasts ls : List S} {j i : Nat} (h : Half picks w lasts j ls) (hi : (awaits w lasts.length)[j]? = some i) (hl : i < lasts.length) (s : S) (hs : s = kept picks (w i) j lasts[i]) : Half picks w lasts (j + 1) (ls.set i s) := by
  refine ⟨by rw [List.length_set]; exact h.1, fun i' hi' => ⟨fun hno => ?_, fun t ht e => ?_⟩⟩
  · rw [List.getElem?_set_ne (fun e => hno j (by omega) (by rw [hi, e]))]
    exact (h.2 i' hi').1 (fun t ht => hno t (by omega))
  · by_cases e2 : i = i'
    · subst e2
      have := nodup_at (awaits_nodup w _) e hi
      subst this
      rw [List.getElem?_set_self (by have := h.1; omega), hs]
    · rw [List.getElem?_set_ne e2]
      refine (h.2 i' hi').2 t ?_ e
      by_cases e3 : t = j
      · rw [e3, hi] at e
        exact absurd (Option.some.inj e) e2
      · omega
theorem half_same {picks : List Int} {w : Nat → List S} {lasts ls : List S} {j i : Nat} (h : Half picks w lasts j ls) (hi : (awaits w lasts.length)[j]? = some i) (hl : i < lasts.length) (hs : lasts[i] = kept picks (w i) j lasts[i]) : Half picks w lasts (j + 1) ls := by
  have h1 := half_step h hi hl _ hs
  have h2 := half_old h hi
  have hl2 : i < ls.length := by rw [h.1]; exact hl
  have e : lasts[i] = ls[i] := by rw [List.getElem?_eq_getElem hl, List.getElem?_eq_getElem hl2] at h2; exact (Option.some.inj h2).symm
  rwa [e, List.set_getElem_self] at h1
theorem half_end {picks : List Int} {w : Nat → List S} {lasts ls : List S} {j : Nat} (h : Half picks w lasts j ls) (hj : (awaits w lasts.length).length ≤ j) : ls = start picks w lasts 0 0 := by
  apply List.ext_getElem?
  intro i
  rw [start_get]
  by_cases hi : i < lasts.length
  · rw [List.getElem?_eq_getElem hi]
    by_cases hw : w i = []
    · rw [(h.2 i hi).1 (fun t _ e => ((awaits_mem w _ i).1 (List.mem_of_getElem? e)).2 hw), List.getElem?_eq_getElem hi]
      simp [hw]
    · have ha := awaits_at w lasts.length i hi hw
      rw [(h.2 i hi).2 _ (by have := (List.getElem?_eq_some_iff.1 ha).1; omega) ha]
      simp [hw]
  · have := h.1
    rw [List.getElem?_eq_none (by omega), List.getElem?_eq_none (by omega)]
    rfl
end Go.Proofs.YtjbkkmgkckopdaaDoor.Dv
