/- The reference device: Waits, Read. -/
import Derived.Test.YtjbkkmgkckopdaaDevRA
namespace Go.Proofs.Ytjbkkmgkckopdaa.Dv
open Go.RowKit Go.Proofs.YtjbkkmgkckopdaaW.PrintWords Go.Proofs.YtjbkkmgkckopdaaW.PrintLast Go.Proofs.YtjbkkmgkckopdaaW.PrintMore Go.Proofs.Ytjbkkmgkckopdaa.Mem
set_option linter.unusedVariables false
set_option linter.unusedSimpArgs false
/-- The row's cells. -/
def RowAt (w : World) (p : Option Addr) (l : List (Nat × S)) : Prop := ∀ j (h : j < l.length), ∃ R, p = some ⟨R, 0, none⟩ ∧ w.cell? ⟨R, j * 2, none⟩ = some (.int .i64 (l[j].1 : Int)) ∧ w.cell? ⟨R, j * 2 + 1, none⟩ = some (.string l[j].2)
theorem row_form {w : World} {v : Value} {l : List (Nat × S)} (h : w.ownsRow 0 144 2 v l.length (pw_row l)) : ∃ p c, v = .slice p l.length c ∧ l.length ≤ c ∧ RowAt w p l := by
  rcases h.2 with ⟨rfl, h0⟩ | ⟨R, cap, cur, rfl, _, hg, hc, hm, hs, ht⟩
  · exact ⟨none, 0, by rw [h0], by omega, fun j hj => by omega⟩
  · refine ⟨_, _, rfl, hc, fun j hj => ⟨R, rfl, ?_, ?_⟩⟩
    · rw [cell_of_row _ _ _ _ _ _ hg, ← Array.getElem?_toList]
      have e : (cur.toList.take (l.length * 2))[j * 2]? = (pw_row l)[j * 2]? := by rw [ht]
      rw [List.getElem?_take_of_lt (by omega)] at e
      rw [e, (pw_row_at l j hj).1]
    · rw [cell_of_row _ _ _ _ _ _ hg, ← Array.getElem?_toList]
      have e : (cur.toList.take (l.length * 2))[j * 2 + 1]? = (pw_row l)[j * 2 + 1]? := by rw [ht]
      rw [List.getElem?_take_of_lt (by omega)] at e
      rw [e, (pw_row_at l j hj).2]
theorem RowAt.move {w w1 : World} {p : Option Addr} {l : List (Nat × S)} (h : RowAt w p l) (hm : ∀ a, p = some a → w1.heap[a.block]? = w.heap[a.block]?) : RowAt w1 p l := fun j hj => by
  obtain ⟨R, h1, h2, h3⟩ := h j hj
  have := hm _ h1
  exact ⟨R, h1, (World.cell?_of_block (a := ⟨R, j * 2, none⟩) this).trans h2, (World.cell?_of_block (a := ⟨R, j * 2 + 1, none⟩) this).trans h3⟩
/-- How many writes of the row are to sector i. -/
def cnt (l : List (Nat × S)) (i : Int) : Nat := (l.filter (fun p => decide ((p.1 : Int) = i))).length
/-- The last write of the row to sector i. -/
def lst (l : List (Nat × S)) (i : Int) (s : S) : S := l.foldl (fun s p => if (p.1 : Int) = i then p.2 else s) s
theorem cnt_take (l : List (Nat × S)) (i : Int) (k : Nat) (h : k < l.length) : cnt (l.take (k + 1)) i = cnt (l.take k) i + (if (l[k].1 : Int) = i then 1 else 0) := by
  unfold cnt
  rw [List.take_succ_eq_append_getElem h, List.filter_append, List.length_append]
  congr 1
  by_cases e : (l[k].1 : Int) = i <;> simp [e]
theorem lst_take (l : List (Nat × S)) (i : Int) (s : S) (k : Nat) (h : k < l.length) : lst (l.take (k + 1)) i s = if (l[k].1 : Int) = i then l[k].2 else lst (l.take k) i s := by
  unfold lst
  rw [List.take_succ_eq_append_getElem h, List.foldl_append]
  rfl
theorem cnt_of (l : List (Nat × S)) (j : Nat) : cnt l (j : Int) = (of l j).length := by
  unfold cnt of
  rw [List.length_map]
  congr 2
  funext p
  by_cases e : p.1 = j
  · simp [e]
  · rw [decide_eq_false (by omega), decide_eq_false e]
theorem cnt_neg (l : List (Nat × S)) (i : Int) (h : i < 0) : cnt l i = 0 := by
  unfold cnt
  rw [List.length_eq_zero_iff, List.filter_eq_nil_iff]
  intro p _
  simp
  omega
theorem cnt_le (l : List (Nat × S)) (i : Int) : cnt l i ≤ l.length := List.length_filter_le _ _
theorem lst_of (j : Nat) : ∀ (l : List (Nat × S)) (s : S), lst l (j : Int) s = (of l j).getLast?.getD s
  | [], s => rfl
  | p :: r, s => by
    have e1 : lst (p :: r) (j : Int) s = lst r (j : Int) (if (p.1 : Int) = j then p.2 else s) := rfl
    rw [e1, lst_of j r]
    unfold of
    by_cases e : p.1 = j
    · rw [if_pos (by omega), List.filter_cons_of_pos (by simpa using e), List.map_cons, last_cons]
    · rw [if_neg (by omega), List.filter_cons_of_neg (by simpa using e)]
theorem ewait_eq (r : E) (i : Int) : r.wait i = (cnt r.row i : Int) := by
  unfold E.wait
  by_cases h : i < 0
  · rw [if_pos h, cnt_neg _ _ h]; rfl
  · obtain ⟨j, rfl⟩ := Int.eq_ofNat_of_zero_le (show 0 ≤ i by omega)
    rw [if_neg h, cnt_of]
    rfl
section
variable {ok : Nat → Prop} {g : Nat} {r : E} {y : ELay}
set_option maxHeartbeats 2000000 in
set_option maxRecDepth 1000000 in
theorem ewaits_calls (w : World) (h : EAt w ok g r y) (i : Int) : Calls Try.prog 66 #[.pointer (some ⟨g, 0, none⟩), .int .i64 i] w (Say (.int .i64 (r.wait i)) w) := by
  rw [ewait_eq]
  obtain ⟨p, c, hv, hc, hr⟩ := row_form h.row
  have z1 := h.z1
  have hfew := h.few
  rw [hv] at z1
  have HR := Aside0.mk hr
  generalize r.row = l at hr HR hfew z1 ⊢
  clear h hv hc hr
  go_enter Try.func66, Try.ntmps66
  go_wp2_with fail
  go_loopg [6, 5] (l.length) (fun kx v6 v5 wr => ∃ k : Nat, v6 = .int .i64 k ∧ v5 = .int .i64 (cnt (l.take k) i : Int) ∧ k ≤ l.length ∧ l.length - k ≤ kx ∧ wr = w)
  case atStart => exact ⟨0, rfl, rfl, Nat.zero_le _, by omega, rfl⟩
  case round =>
    obtain ⟨k, rfl, rfl, hk, hkk, rfl⟩ := hrel
    by_cases hgo : k < l.length
    · obtain ⟨R, rfl, c0, c1⟩ := HR.out k hgo
      have a1 : (k : Int) < (l.length : Int) := by omega
      have a2 : decide ((k : Int) < (l.length : Int)) = true := decide_eq_true a1
      have a3 : (0 : Int) ≤ (k : Int) := by omega
      have w1 : IntKind.i64.wrap ((k : Int) + 1) = (k : Int) + 1 := by rw [IntKind.wrap_i64]; omega
      have ht := cnt_take l i k hgo
      have hl2 := cnt_le (l.take k) i
      rw [List.length_take] at hl2
      have w2 : IntKind.i64.wrap ((cnt (l.take k) i : Int) + 1) = (cnt (l.take k) i : Int) + 1 := by rw [IntKind.wrap_i64]; omega
      generalize l[k].1 = key at c0 ht
      generalize l[k].2 = s at c1
      by_cases he : (key : Int) = i
      · rw [if_pos he] at ht
        have HT := Aside0.mk ht
        have HE := Aside0.mk he
        rw [he] at c0
        clear ht he hl2 hgo
        generalize cnt (l.take k) i = n at w2 HT
        go_wp2_with fail
        go_roundg (l.length - (k + 1))
        case measure => omega
        case rel => exact ⟨k + 1, rfl, by rw [HT.out]; rfl, by omega, Nat.le_refl _, rfl⟩
      · rw [if_neg he] at ht
        have HT := Aside0.mk ht
        have f1 : ((key : Int) == i) = false := beq_eq_false_iff_ne.mpr he
        clear ht he hl2 hgo w2
        generalize cnt (l.take k) i = n at HT
        go_wp2_with fail
        go_roundg (l.length - (k + 1))
        case measure => omega
        case rel => exact ⟨k + 1, rfl, by rw [HT.out]; rfl, by omega, Nat.le_refl _, rfl⟩
    · have a1 : ¬ (k : Int) < (l.length : Int) := by omega
      have a2 : decide ((k : Int) < (l.length : Int)) = false := decide_eq_false a1
      have e : l.take k = l := List.take_of_length_le (by omega)
      rw [e]
      clear e hgo
      go_wp2_with fail
      go_ret
      exact ⟨rfl, rfl⟩
set_option maxHeartbeats 2000000 in
set_option maxRecDepth 1000000 in
theorem eread_calls (w : World) (h : EAt w ok g r y) (i : Int) : Calls Try.prog 65 #[.pointer (some ⟨g, 0, none⟩), .int .i64 i] w (Say (.tuple #[.string (r.read i).1, .int .i64 (r.read i).2]) w) := by
  obtain ⟨p, c, hv, hc, hr⟩ := row_form h.row
  have z0 := h.z0
  have z1 := h.z1
  have z2 := h.z2
  have hfew := h.few
  have hlen := h.len
  rw [hv] at z1
  by_cases hi : i < 0
  · have e : r.read i = (ByteArray.empty, 1) := by unfold E.read; rw [if_pos (.inl hi)]
    rw [e]
    clear h hr hv e
    go_enter Try.func65, Try.ntmps65
    go_wp2_with fail
    go_ret2
    exact ⟨rfl, rfl⟩
  obtain ⟨j, rfl⟩ := Int.eq_ofNat_of_zero_le (show 0 ≤ i by omega)
  by_cases hj : r.sector.length ≤ j
  · have e : r.read (j : Int) = (ByteArray.empty, 1) := by unfold E.read; rw [if_pos (.inr (by omega))]
    rw [e]
    have a1 : (r.sector.length : Int) ≤ (j : Int) := by omega
    have a2 : ¬ (j : Int) < (r.sector.length : Int) := by omega
    clear h hr hv e
    go_enter Try.func65, Try.ntmps65
    go_wp2_with fail
    go_ret2
    exact ⟨rfl, rfl⟩
  have a1 : ¬ (r.sector.length : Int) ≤ (j : Int) := by omega
  have a2 : (j : Int) < (r.sector.length : Int) := by omega
  cases ho : r.off
  rotate_left
  · have e : r.read (j : Int) = (ByteArray.empty, 6) := by unfold E.read; rw [if_neg (by omega), if_pos ho]
    rw [e]
    rw [ho] at z2
    clear h hr hv e ho
    go_enter Try.func65, Try.ntmps65
    go_wp2_with fail
    go_ret2
    exact ⟨rfl, rfl⟩
  · have e : r.read (j : Int) = (lst r.row (j : Int) (r.sector[j]'(by omega)), 0) := by
      unfold E.read
      rw [if_neg (by omega), if_neg (by rw [ho]; decide), lst_of, List.getD_eq_getElem?_getD, Int.toNat_natCast, List.getElem?_eq_getElem (by omega)]
      rfl
    rw [e]
    rw [ho] at z2
    have cs := h.sec.cell j (by omega)
    have a3 : (0 : Int) ≤ (j : Int) := by omega
    generalize r.sector[j]'(by omega) = s0 at cs ⊢
    have HR := Aside0.mk hr
    generalize r.row = l at hr HR hfew z1 ⊢
    clear h hv hc hr e ho
    generalize r.sector.length = n at *
    go_enter Try.func65, Try.ntmps65
    go_wp2_with fail
    go_loopg [7, 6] (l.length) (fun kx v7 v6 wr => ∃ k : Nat, v7 = .int .i64 k ∧ v6 = .string (lst (l.take k) (j : Int) s0) ∧ k ≤ l.length ∧ l.length - k ≤ kx ∧ wr = w)
    case atStart => exact ⟨0, rfl, rfl, Nat.zero_le _, by omega, rfl⟩
    case round =>
      obtain ⟨k, rfl, rfl, hk, hkk, rfl⟩ := hrel
      by_cases hgo : k < l.length
      · obtain ⟨R, rfl, c0, c1⟩ := HR.out k hgo
        have b1 : (k : Int) < (l.length : Int) := by omega
        have b2 : decide ((k : Int) < (l.length : Int)) = true := decide_eq_true b1
        have b3 : (0 : Int) ≤ (k : Int) := by omega
        have w1 : IntKind.i64.wrap ((k : Int) + 1) = (k : Int) + 1 := by rw [IntKind.wrap_i64]; omega
        have ht := lst_take l (j : Int) s0 k hgo
        generalize l[k].1 = key at c0 ht
        generalize l[k].2 = s at c1 ht
        by_cases he : (key : Int) = (j : Int)
        · rw [if_pos he] at ht
          have HT := Aside0.mk ht
          rw [he] at c0
          clear ht he hgo
          generalize lst (l.take k) (j : Int) s0 = cur
          go_wp2_with fail
          go_roundg (l.length - (k + 1))
          case measure => omega
          case rel => exact ⟨k + 1, rfl, by rw [HT.out], by omega, Nat.le_refl _, rfl⟩
        · rw [if_neg he] at ht
          have HT := Aside0.mk ht
          have f1 : ((key : Int) == (j : Int)) = false := beq_eq_false_iff_ne.mpr he
          clear ht he hgo
          generalize lst (l.take k) (j : Int) s0 = cur at HT
          go_wp2_with fail
          go_roundg (l.length - (k + 1))
          case measure => omega
          case rel => exact ⟨k + 1, rfl, by rw [HT.out], by omega, Nat.le_refl _, rfl⟩
      · have b1 : ¬ (k : Int) < (l.length : Int) := by omega
        have b2 : decide ((k : Int) < (l.length : Int)) = false := decide_eq_false b1
        have e : l.take k = l := List.take_of_length_le (by omega)
        rw [e]
        clear e hgo
        go_wp2_with fail
        go_ret2
        exact ⟨rfl, rfl⟩
end
end Go.Proofs.Ytjbkkmgkckopdaa.Dv
