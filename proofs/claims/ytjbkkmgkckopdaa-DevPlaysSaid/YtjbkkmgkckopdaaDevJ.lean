/- The device: what an act's text is; the nil device. -/
import Derived.Test.YtjbkkmgkckopdaaDevI
import Derived.Deep.RegionHeld3
namespace Go.Proofs.Ytjbkkmgkckopdaa.Dv
open Go.WideShapes (bytes_inj)
open Go.Proofs.Ytjbkkmgkckopdaa.PN (bcell)
open Go.RowKit Go.Proofs.YtjbkkmgkckopdaaW.PrintWords Go.Proofs.YtjbkkmgkckopdaaW.PrintLast Go.Proofs.YtjbkkmgkckopdaaW.PrintMore Go.Proofs.Ytjbkkmgkckopdaa.Mem
set_option linter.unusedVariables false
set_option linter.unusedSimpArgs false
/-- A value is told, nothing that lay before has turned. -/
def Tell (v : Value) (w : World) (e : Ending) (w' : World) : Prop := e = .returned v ∧ Below w.heap.size w w'
/-- The sector's bytes, the first k of them set. -/
def rowB (c : Int) (k : Nat) : Array Value := (nums .u8 (List.replicate k c ++ List.replicate (128 - k) 0)).toArray
theorem rowB_zero (c : Int) : madeCells #[.int .u8 0] 128 = rowB c 0 := by
  apply Array.toList_inj.1
  rw [toList_madeCells_one, rowB, List.toList_toArray, nums]
  simp
theorem rowB_at (c : Int) {k : Nat} (h : k < 128) : (rowB c k)[k]? = some (.int .u8 0) := by
  rw [rowB, List.getElem?_toArray, nums, List.getElem?_map, List.getElem?_append_right (by simp), List.length_replicate, Nat.sub_self, List.getElem?_replicate, if_pos (by omega)]
  rfl
theorem rowB_set (c : Int) {k : Nat} (h : k < 128) : (rowB c k).setIfInBounds k (.int .u8 c) = rowB c (k + 1) := by
  apply Array.toList_inj.1
  rw [rowB, rowB, Array.toList_setIfInBounds, List.toList_toArray, List.toList_toArray, nums, nums, List.map_append, List.map_append, List.set_append_right _ _ (by simp), List.length_map, List.length_replicate, Nat.sub_self]
  rw [show 128 - k = (128 - (k + 1)) + 1 by omega, List.replicate_succ, List.map_cons, List.set_cons_zero, List.replicate_succ', List.map_append, List.append_assoc]
  rfl
theorem rowB_end (c : Int) {w : World} {g base : Nat} (hb : base ≤ g) (h : w.heap[g]? = some (.cells (rowB c 128) 5 (0, 0))) : w.ownsRow base 5 1 (.slice (some ⟨g, 0, none⟩) 128 128) 128 (nums .u8 (List.replicate 128 c)) := by
  refine ⟨by simp [nums], .inr ⟨g, 128, _, rfl, hb, h, Nat.le_refl _, by rw [maxLen]; omega, by simp [rowB, nums], ?_⟩⟩
  rw [rowB, List.toList_toArray, List.take_of_length_le (by simp [nums])]
  simp
set_option maxHeartbeats 1000000 in
set_option maxRecDepth 1000000 in
theorem sector_calls (c : Int) (w : World) : Calls Try.prog 48 #[.int .u8 c] w (Tell (.string (sec c)) w) := by
  have hm := fun w => make_run 128 rfl w
  rw [rowB_zero c] at hm
  go_enter Try.func48, Try.ntmps48
  go_wp2_with fail
  have HB := Aside0.mk (show Below w.heap.size w (w.alloc (.cells (rowB c 0) 5)) from below_alloc (Below.refl _ _) _)
  have HR := Aside0.mk (blk_new w (.cells (rowB c 0) 5))
  have HL := Aside0.mk (Nat.le_refl w.heap.size)
  go_loopg [4] 128 (fun kx v4 wr => ∃ k : Nat, v4 = .int .i64 k ∧ k ≤ 128 ∧ 128 - k ≤ kx ∧ Aside0 (wr.heap[w.heap.size]? = some (.cells (rowB c k) 5 (0, 0))) ∧ Aside0 (Below w.heap.size w wr))
  case atStart => exact ⟨0, rfl, by omega, by omega, HR, HB⟩
  case round =>
    clear HR HB hm
    obtain ⟨k, rfl, hk, hkk, HR, HB⟩ := hrel
    by_cases hgo : k < 128
    · have a1 : (k : Int) < 128 := by omega
      have a2 : decide ((k : Int) < 128) = true := decide_eq_true a1
      have a3 : (0 : Int) ≤ (k : Int) := by omega
      have ck := (blk_cell HR.out k).trans (rowB_at c hgo)
      have fk := blk_frozen HR.out k
      have HR2 := Aside0.mk (blk_put HR.out k (.int .u8 c) (rowB_set c hgo))
      have w1 : IntKind.i64.wrap ((k : Int) + 1) = (k : Int) + 1 := by rw [IntKind.wrap_i64]; omega
      go_wp2_with fail
      go_roundg (128 - (k + 1))
      case measure => omega
      case rel => exact ⟨k + 1, rfl, by omega, Nat.le_refl _, HR2, Aside0.mk (below_set HB.out (Nat.le_refl _))⟩
    · obtain rfl : k = 128 := by omega
      have hcv := own_string Try.underlying134 Try.underlying5 Try.underlying9 (rowB_end c (Nat.le_refl _) HR.out)
      rw [show strOfNums (List.replicate 128 c) = sec c from rfl] at hcv
      go_wp2_with fail
      go_ret
      exact ⟨rfl, HB.out⟩
/-- An act. -/
structure A where
  kind : Int
  i : Int
  n : Int
  c : Int
  text : S
  picks : List Int
def A.txt (a : A) : S := if a.text = ByteArray.empty then sec a.c else a.text
def A.cells (a : A) (p : Option Addr) (pc : Nat) : Array Value := #[.int .i64 a.kind, .int .i64 a.i, .int .i64 a.n, .int .u8 a.c, .string a.text, .slice p a.picks.length pc]
theorem tl_full {s : S} (h : ¬ s = ByteArray.empty) : (ByteArray.toList s).isEmpty = false := by
  rw [ByteArray.toList_eq]
  cases hd : s.data.toList with
  | nil => exact absurd (bytes_inj (a := s) (b := ByteArray.empty) (by rw [hd]; rfl)) h
  | cons x xs => rfl
set_option maxHeartbeats 1000000 in
set_option maxRecDepth 1000000 in
theorem text_calls (a : A) (p : Option Addr) (pc : Nat) (w : World) : Calls Try.prog 51 #[.agg (a.cells p pc)] w (Tell (.string a.txt) w) := by
  obtain ⟨kind, i, n, c, text, picks⟩ := a
  by_cases h : text = ByteArray.empty
  · rw [show A.txt ⟨kind, i, n, c, text, picks⟩ = sec c from if_pos h]
    unfold A.cells
    dsimp only
    subst h
    have HS := Aside0.mk (sector_calls c)
    generalize sec c = s at HS
    go_enter Try.func51, Try.ntmps51
    go_wp2_with fail
    refine (HS.out _).mono ?_
    rintro e w1 ⟨rfl, hb⟩
    have HB := Aside0.mk (below_step (below_alloc (Below.refl w.heap.size w) _) hb)
    clear hb
    go_wp2_with fail
    go_ret
    exact ⟨rfl, HB.out⟩
  · rw [show A.txt ⟨kind, i, n, c, text, picks⟩ = text from if_neg h]
    unfold A.cells
    dsimp only
    have ht := tl_full h
    clear h
    go_enter Try.func51, Try.ntmps51
    go_wp2_with fail
    go_ret
    exact ⟨rfl, below_alloc (Below.refl _ _) _⟩
theorem size_nil (w : World) : Calls Try.prog 62 #[.pointer none] w (Say (.int .i64 0) w) := by
  go_enter Try.func62, Try.ntmps62
  go_wp2_with fail
  go_ret
  exact ⟨rfl, rfl⟩
theorem on_nil (w : World) : Calls Try.prog 49 #[.pointer none] w (Say (.bool false) w) := by
  go_enter Try.func49, Try.ntmps49
  go_wp2_with fail
  go_ret
  exact ⟨rfl, rfl⟩
theorem steps_nil (w : World) : Calls Try.prog 60 #[.pointer none] w (Say (.int .i64 0) w) := by
  go_enter Try.func60, Try.ntmps60
  go_wp2_with fail
  go_ret
  exact ⟨rfl, rfl⟩
theorem writes_nil (w : World) : Calls Try.prog 57 #[.pointer none] w (Say (.int .i64 0) w) := by
  go_enter Try.func57, Try.ntmps57
  go_wp2_with fail
  go_ret
  exact ⟨rfl, rfl⟩
theorem is_nil (w : World) (i : Int) : Calls Try.prog 97 #[.pointer none, .int .i64 i] w (Say (.bool false) w) := by
  go_enter Try.func97, Try.ntmps97
  go_wp2_with fail
  go_ret
  exact ⟨rfl, rfl⟩
theorem waits_nil (w : World) (i : Int) : Calls Try.prog 55 #[.pointer none, .int .i64 i] w (Say (.int .i64 0) w) := by
  have HI := Aside0.mk (is_nil w i)
  go_enter Try.func55, Try.ntmps55
  go_wp2_with fail
  refine HI.out.mono ?_
  rintro e w1 ⟨rfl, rfl⟩
  go_wp2_with fail
  go_ret
  exact ⟨rfl, rfl⟩
theorem lasts_nil (w : World) (i : Int) : Calls Try.prog 52 #[.pointer none, .int .i64 i] w (Say (.string ByteArray.empty) w) := by
  have HI := Aside0.mk (is_nil w i)
  go_enter Try.func52, Try.ntmps52
  go_wp2_with fail
  refine HI.out.mono ?_
  rintro e w1 ⟨rfl, rfl⟩
  go_wp2_with fail
  go_ret
  exact ⟨rfl, rfl⟩
theorem read_nil (w : World) (i : Int) : Calls Try.prog 64 #[.pointer none, .int .i64 i] w (Say (.tuple #[.string ByteArray.empty, .int .i64 2]) w) := by
  go_enter Try.func64, Try.ntmps64
  go_wp2_with fail
  go_ret2
  exact ⟨rfl, rfl⟩
theorem cut_nil (w : World) : Calls Try.prog 53 #[.pointer none] w (Say (.int .i64 2) w) := by
  go_enter Try.func53, Try.ntmps53
  go_wp2_with fail
  go_ret
  exact ⟨rfl, rfl⟩
theorem fused_nil (w : World) (i : Int) : Calls Try.prog 56 #[.pointer none, .int .i64 i] w (Say (.int .i64 2) w) := by
  go_enter Try.func56, Try.ntmps56
  go_wp2_with fail
  go_ret
  exact ⟨rfl, rfl⟩
theorem sync_nil (w : World) : Calls Try.prog 58 #[.pointer none] w (Say (.int .i64 2) w) := by
  go_enter Try.func58, Try.ntmps58
  go_wp2_with fail
  go_ret
  exact ⟨rfl, rfl⟩
theorem write_nil (w : World) (i : Int) (s : S) : Calls Try.prog 59 #[.pointer none, .int .i64 i, .string s] w (Say (.int .i64 2) w) := by
  go_enter Try.func59, Try.ntmps59
  go_wp2_with fail
  go_ret
  exact ⟨rfl, rfl⟩
theorem start_nil (w : World) (v : Value) : Calls Try.prog 54 #[.pointer none, v] w (Say (.int .i64 2) w) := by
  go_enter Try.func54, Try.ntmps54
  go_wp2_with fail
  go_ret
  exact ⟨rfl, rfl⟩
set_option maxHeartbeats 4000000 in
set_option maxRecDepth 1000000 in
theorem does_nil (a : A) (p : Option Addr) (pc : Nat) (w : World) : Calls Try.prog 50 #[.pointer none, .agg (a.cells p pc)] w (Tell (.int .i64 2) w) := by
  have HT := Aside0.mk (text_calls a p pc)
  have HB := Aside0.mk (show Below w.heap.size w (w.alloc (.cells (a.cells p pc) 67)) from below_alloc (Below.refl _ _) _)
  obtain ⟨kind, i, n, c, text, picks⟩ := a
  generalize A.txt ⟨kind, i, n, c, text, picks⟩ = tx at HT
  unfold A.cells at *
  dsimp only at *
  have hk : kind = 1 ∨ kind = 2 ∨ kind = 3 ∨ kind = 4 ∨ kind = 5 ∨ (¬ kind = 1 ∧ ¬ kind = 2 ∧ ¬ kind = 3 ∧ ¬ kind = 4 ∧ ¬ kind = 5) := by omega
  rcases hk with rfl | rfl | rfl | rfl | rfl | ⟨k1, k2, k3, k4, k5⟩
  · have HW := Aside0.mk (fun w => write_nil w i tx)
    go_enter Try.func50, Try.ntmps50
    go_wp2_with fail
    go_region_held3 (fun w' => w'.cell? ⟨w.heap.size, 0, none⟩ = some (.int .i64 1) ∧ w'.cell? ⟨w.heap.size, 1, none⟩ = some (.int .i64 i) ∧ w'.cell? ⟨w.heap.size, 2, none⟩ = some (.int .i64 n) ∧ w'.cell? ⟨w.heap.size, 3, none⟩ = some (.int .u8 c) ∧ w'.cell? ⟨w.heap.size, 4, none⟩ = some (.string text) ∧ w'.cell? ⟨w.heap.size, 5, none⟩ = some (.slice p picks.length pc)) (go_keep) ((first | (go_at_call 51; (with_reducible refine (HT.out _).mono ?_); rintro e w6 ⟨rfl, hb⟩; have hB6 := below_then (below_drew (below_alloc (Below.refl w.heap.size w) _)) (below_drew (below_alloc (Below.refl w.heap.size w) _)).size hb; obtain ⟨hc6, hf6⟩ := bcell hb) | (go_at_call 59; (with_reducible refine (HW.out _).mono ?_); rintro e w7 ⟨rfl, rfl⟩)))
    go_wp2_with fail
    go_ret
    exact ⟨rfl, hB6⟩
  · have HW := Aside0.mk sync_nil
    go_enter Try.func50, Try.ntmps50
    go_wp2_with fail
    refine (HW.out _).mono ?_
    rintro e w1 ⟨rfl, rfl⟩
    go_wp2_with fail
    go_ret
    exact ⟨rfl, HB.out⟩
  · have HW := Aside0.mk fused_nil
    go_enter Try.func50, Try.ntmps50
    go_wp2_with fail
    refine (HW.out _ _).mono ?_
    rintro e w1 ⟨rfl, rfl⟩
    go_wp2_with fail
    go_ret
    exact ⟨rfl, HB.out⟩
  · have HW := Aside0.mk cut_nil
    go_enter Try.func50, Try.ntmps50
    go_wp2_with fail
    refine (HW.out _).mono ?_
    rintro e w1 ⟨rfl, rfl⟩
    go_wp2_with fail
    go_ret
    exact ⟨rfl, HB.out⟩
  · have HW := Aside0.mk start_nil
    go_enter Try.func50, Try.ntmps50
    go_wp2_with fail
    refine (HW.out _ _).mono ?_
    rintro e w1 ⟨rfl, rfl⟩
    go_wp2_with fail
    go_ret
    exact ⟨rfl, HB.out⟩
  · have HW := Aside0.mk read_nil
    go_enter Try.func50, Try.ntmps50
    go_wp2_with fail
    refine (HW.out _ _).mono ?_
    rintro e w1 ⟨rfl, rfl⟩
    go_wp2_with fail
    go_ret
    exact ⟨rfl, HB.out⟩
end Go.Proofs.Ytjbkkmgkckopdaa.Dv
