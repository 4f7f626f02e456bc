/- slices.Repeat at one string; the device's New. -/
import Derived.Test.YtjbkkmgkckopdaaDoorDevB
import Derived.Laws.CopyOwn
import Derived.Deep.RegionLaw
import Derived.Deep.OwnRows
namespace Go.Proofs.YtjbkkmgkckopdaaDoor.Dv
open Go.RowKit Go.Proofs.YtjbkkmgkckopdaaDoorW.PrintWords Go.Proofs.YtjbkkmgkckopdaaDoorW.PrintLast Go.Proofs.YtjbkkmgkckopdaaDoorW.PrintMore Go.Proofs.YtjbkkmgkckopdaaDoor.Mem
set_option linter.unusedVariables false
set_option linter.unusedSimpArgs false
theorem low32 (n : Nat) (hn : n ≤ 2048) : bits .and .u64 (n : Int) 4294967295 = (n : Int) := by
  rw [and_low32 _ (by omega) (by omega)]; omega
theorem mul64_calls (n : Nat) (hn : n ≤ 2048) (w : World) : Calls Tryd.prog 54 #[.int .u64 1, .int .u64 (n : Int)] w (Say (.tuple #[.int .u64 0, .int .u64 (n : Int)]) w) := by
  have e1 := low32 n hn
  have e0 : bits .and .u64 1 4294967295 = 1 := low32 1 (by omega)
  have e2 : bits .and .u64 0 4294967295 = 0 := low32 0 (by omega)
  have b0 : (0 : Int) ≤ (n : Int) := by omega
  have b1 : (n : Int) ≤ 2048 := by omega
  have d1 : (n : Int) / 4294967296 = 0 := by omega
  have w1 : IntKind.u64.wrap (n : Int) = (n : Int) := by rw [IntKind.wrap_u64]; omega
  have w0 : IntKind.u64.wrap 0 = 0 := by rw [IntKind.wrap_u64]; omega
  go_enter Tryd.func54, Tryd.ntmps54
  go_wp2
  go_ret2
  exact Say.of rfl (by simp [e0, e1, e2, d1, w1, w0]) rfl
theorem mul_calls (n : Nat) (hn : n ≤ 2048) (w : World) : Calls Tryd.prog 41 #[.int .u64 1, .int .u64 (n : Int)] w (Say (.tuple #[.int .u64 0, .int .u64 (n : Int)]) w) := by
  have HM := Aside0.mk (mul64_calls n hn)
  go_enter Tryd.func41, Tryd.ntmps41
  go_wp2_with fail
  refine (HM.out _).mono ?_
  rintro e w1 ⟨rfl, rfl⟩
  go_wp2_with fail
  go_ret2
  exact ⟨rfl, rfl⟩
theorem info9 : (Tryd.prog.info? 9).map (fun i => (i.zero, i.size, i.bytes)) = some (some (.string ByteArray.empty), 1, 16) := by kernel_rfl
/-- The row under way: k strings s, the others empty. -/
def cur (n : Nat) (s : S) (k : Nat) : List Value := List.replicate k (.string s) ++ List.replicate (n - k) (.string ByteArray.empty)
theorem cur_len {n k : Nat} (s : S) (h : k ≤ n) : (cur n s k).length = n := by simp [cur]; omega
theorem cur_zero (n : Nat) (s : S) : madeCells #[.string ByteArray.empty] n = (cur n s 0).toArray := by
  apply Array.toList_inj.1
  rw [toList_madeCells_one]
  simp [cur]
theorem cur_splice {n k m : Nat} (s : S) (h : k + m ≤ n) : splice (cur n s k) k (List.replicate m (.string s)) = cur n s (k + m) := by
  unfold splice cur
  have e : n - k = m + (n - (k + m)) := by omega
  rw [List.take_left' (by simp), List.length_replicate, List.drop_append, List.length_replicate, List.drop_replicate, List.drop_replicate, e, ← List.replicate_append_replicate]
  simp [Nat.add_sub_cancel_left]
  rw [← List.append_assoc, List.replicate_append_replicate]
theorem cur_at {n k j : Nat} (s : S) (h : j < k) : (cur n s k)[j]? = some (.string s) := by
  unfold cur
  rw [List.getElem?_append_left (by simpa using h), List.getElem?_replicate, if_pos h]
theorem rep_at {m j : Nat} {u v : Value} (h : (List.replicate m u)[j]? = some v) : j < m ∧ v = u := by
  rw [List.getElem?_replicate] at h
  split at h
  · exact ⟨by assumption, (Option.some.inj h).symm⟩
  · cases h
def RepRow (w : World) (L n : Nat) (s : S) (k : Nat) : Prop := w.heap[L]? = some (.cells (cur n s k).toArray 9 (0, 0))
/-- What Repeat hands back: a row of n strings, all s. -/
def Rep (n : Nat) (s : S) (w : World) (e : Ending) (w' : World) : Prop := ∃ L, e = .returned (.slice (some ⟨L, 0, none⟩) n n) ∧ w.heap.size ≤ L ∧ Strs w' L (List.replicate n s) [] ∧ Below w.heap.size w w'
set_option maxHeartbeats 2000000 in
set_option maxRecDepth 1000000 in
theorem repeat_calls (n : Nat) (h1 : 1 ≤ n) (hn : n ≤ 2048) (s : S) (b : Nat) (c : Nat) (w : World) (hb : Strs w b [s] []) : Calls Tryd.prog 28 #[.slice (some ⟨b, 0, none⟩) 1 c, .int .i64 (n : Int)] w (Rep n s w) := by
  have HM := Aside0.mk (mul_calls n hn)
  have c0 : w.cell? ⟨b, 0, none⟩ = some (.string s) := hb.cell 0 (by simp)
  have b0 : (0 : Int) ≤ (n : Int) := by omega
  have b1 : (n : Int) ≤ 2048 := by omega
  have hlt := blk_lt hb
  have hmk := run_make_row' (P := Tryd.prog) 62 9 (.string ByteArray.empty) 16 Tryd.underlying62 info9 rfl .i64 .i64 n (by omega) (by omega)
  rw [cur_zero n s] at hmk
  go_enter Tryd.func28, Tryd.ntmps28
  go_wp2_with fail
  refine (HM.out _).mono ?_
  rintro e w1 ⟨rfl, rfl⟩
  go_wp2_with ((with_reducible refine gate_builtin (b := .copy) (xs := #[.tmp 31, .tmp 32]) rfl ?_); refine wpList_copy_splice rfl (.tmp 31) (.tmp 32) 62 62 rfl 9 Tryd.underlying62 (by kernel_rfl) (some ⟨w.heap.size, 0, none⟩) (some ⟨b, 0, none⟩) n n 1 c rfl rfl w.heap.size 0 (cur n s 0) 9 (blk_new _ _) [.string s] (by simp [Nat.min_def]; omega) (fun _ => ⟨rfl, _, rfl, fun j v hj => by obtain ⟨rfl, rfl⟩ : j = 0 ∧ v = .string s := (by cases j with | zero => exact ⟨rfl, by simpa using hj.symm⟩ | succ j => simp at hj); rw [add_plain]; exact pw_cell_below (below_alloc (Below.refl _ _) _) c0⟩) (by rw [cur_len s (by omega)]; simp; omega) (by simp [Value.oneCell']) w.heap.size w (below_alloc (Below.refl _ _) _) (Nat.le_refl _) ?_; intro w2 hr2 hb2)
  have HR := Aside0.mk (show RepRow w2 w.heap.size n s 1 by
    have := hr2.out
    rw [show ([.string s] : List Value) = List.replicate 1 (.string s) from rfl, cur_splice s (by omega)] at this
    exact this)
  have HB := Aside0.mk hb2
  have HL := Aside0.mk (Nat.le_refl w.heap.size)
  clear hr2 hb2
  generalize hL : w.heap.size = L at HR
  have HL2 := Aside0.mk hL
  clear hL HL hmk
  go_loopg [8] n (fun kx v8 wr => ∃ k : Nat, v8 = .int .i64 k ∧ 1 ≤ k ∧ k ≤ n ∧ n - k ≤ kx ∧ Aside0 (RepRow wr L n s k) ∧ Aside0 (Below w.heap.size w wr))
  case atStart => exact ⟨1, rfl, Nat.le_refl _, h1, by omega, HR, by rw [HL2.out]; rw [HL2.out] at HB; exact HB⟩
  case round =>
    clear HR HB
    obtain ⟨k, rfl, hk1, hkn, hkk, HR, HB⟩ := hrel
    by_cases hlt2 : k < n
    · have a1 : (k : Int) < (n : Int) := by omega
      have a2 : ¬ n = k := by omega
      have a3 : (0 : Int) ≤ (k : Int) := by omega
      have a4 : (k : Int) ≤ (n : Int) := by omega
      generalize hm : min k (n - k) = m
      have hm1 : k + m ≤ n := by omega
      have hm2 : 1 ≤ m := by omega
      have hm3 : m ≤ k := by omega
      have HM2 := Aside0.mk hm
      clear hm
      have w9 : IntKind.i64.wrap ((k : Int) + (m : Int)) = (k : Int) + (m : Int) := by rw [IntKind.wrap_i64]; omega
      go_wp2_with fail
      go_region_law (refine step_copy_splice rfl (.tmp 41) (.tmp 44) 62 62 rfl 9 Tryd.underlying62 (by kernel_rfl) (some ⟨L, k, none⟩) (some ⟨L, 0, none⟩) (n - k) (n - k) k n (by simp [Act.eval, Act.put]) (by simp [Act.eval, Act.put]) L k (cur n s k) 9 HR.out (List.replicate m (.string s)) (by rw [List.length_replicate]; exact HM2.out.symm) (fun _ => ⟨rfl, _, rfl, fun j v hj => by rw [add_plain]; obtain ⟨hj1, rfl⟩ := rep_at hj; exact (cell_of_row _ _ _ _ _ _ HR.out).trans (by rw [List.getElem?_toArray]; exact cur_at s (by omega))⟩) (by rw [cur_len s hkn, List.length_replicate]; exact hm1) (by simp [Value.oneCell']) w.heap.size w (below_drew HB.out) (Nat.le_of_eq HL2.out) ?_; intro w3 hr3 hb3)
      have HR3 := Aside0.mk (show RepRow w3 L n s (k + m) by
        have := hr3.out
        rw [cur_splice s hm1] at this
        exact this)
      have HB3 := Aside0.mk hb3
      clear hr3 hb3 HR HB
      go_wp2_with fail
      go_roundg (n - (k + m))
      case measure => omega
      case rel => exact ⟨k + m, by simp, by omega, hm1, Nat.le_refl _, HR3, HB3⟩
    · have a1 : ¬ (k : Int) < (n : Int) := by omega
      obtain rfl : k = n := by omega
      go_wp2_with fail
      go_ret
      refine ⟨L, ?_, ?_, ?_, HB.out⟩
      · rfl
      · exact Nat.le_of_eq HL2.out
      · have := HR.out
        unfold RepRow cur at this
        unfold Strs pw_strs
        simpa using this
/-- A new device. -/
def fresh (n : Nat) : D := ⟨List.replicate n zero128, [], false, 0, 0, 0⟩
theorem fresh_ok (n : Nat) : (fresh n).Ok := ⟨by simp [fresh], by simp [fresh]⟩
def NewPost (n : Nat) (w : World) (e : Ending) (w' : World) : Prop := ∃ g y, e = .returned (.tuple #[.pointer (some ⟨g, 0, none⟩), .int .i64 0]) ∧ DAt w' (fun k => w.heap.size ≤ k) g (fresh n) y ∧ Below w.heap.size w w'
theorem info5 : (Tryd.prog.info? 5).map (fun i => (i.zero, i.size, i.bytes)) = some (some (.int .u8 0), 1, 1) := by kernel_rfl
/-- A sector of one byte. -/
def sec (c : Int) : S := strOfNums (List.replicate 128 c)
theorem sec_zero : sec 0 = zero128 := by rfl
theorem make_run (n : Int) (hn : n = ((128 : Nat) : Int)) (w : World) : (Instr.makeSlice 61 (.int .i64 n) (.int .i64 n)).run Tryd.prog w = .ok (.slice (some ⟨w.heap.size, 0, none⟩) 128 128) (w.alloc (.cells (madeCells #[.int .u8 0] 128) 5)) := by
  subst hn
  exact run_make_row' (P := Tryd.prog) 61 5 (.int .u8 0) 1 Tryd.underlying61 info5 rfl .i64 .i64 128 (by omega) (by omega) w
theorem make_bytes : ∃ Z : Array Value, (∀ w, (Instr.makeSlice 61 (.int .i64 128) (.int .i64 128)).run Tryd.prog w = .ok (.slice (some ⟨w.heap.size, 0, none⟩) 128 128) (w.alloc (.cells Z 5))) ∧
    (∀ w : World, (w.alloc (.cells Z 5)).ownsRow w.heap.size 5 1 (.slice (some ⟨w.heap.size, 0, none⟩) 128 128) 128 (nums .u8 (List.replicate 128 0))) :=
  ⟨madeCells #[.int .u8 0] 128, fun w => make_run 128 rfl w, fun w => own_made w w.heap.size 5 .u8 128 (Nat.le_refl _) (by omega)⟩
theorem strs_one (w : World) (s : S) : Strs (w.alloc (.cells #[.string s] 9)) w.heap.size [s] [] := blk_new _ _
theorem Strs.below {w w' : World} {g : Nat} {xs : List S} {rest : List Value} (h : Strs w g xs rest) (hb : Below w.heap.size w w') : Strs w' g xs rest := blk_below h hb
set_option maxHeartbeats 400000 in
set_option maxRecDepth 1000000 in
theorem new_calls (n : Nat) (h1 : 1 ≤ n) (hn : n ≤ 2048) (w : World) : Calls Tryd.prog 8 #[.int .i64 (n : Int)] w (NewPost n w) := by
  have a1 : ¬ (n : Int) < 1 := by omega
  have a2 : decide ((n : Int) < 1) = false := decide_eq_false a1
  have a3 : ¬ (2048 : Int) < (n : Int) := by omega
  have a4 : decide ((2048 : Int) < (n : Int)) = false := decide_eq_false a3
  have hmm := @run_makeMap Tryd.prog
  obtain ⟨Z, hZ, hO⟩ := make_bytes
  have hcv : ∀ w : World, (convert 61 9 (.slice (some ⟨w.heap.size, 0, none⟩) 128 128)).run Tryd.prog (w.alloc (.cells Z 5)) = .ok (.string zero128) (w.alloc (.cells Z 5)) := fun w => by rw [own_string Tryd.underlying61 Tryd.underlying5 Tryd.underlying9 (hO w)]; rw [← sec_zero]; rfl
  clear hO
  generalize hz : zero128 = z at hcv
  have HZ := Aside0.mk hz
  clear hz
  have RC := Aside0.mk (fun b c w hb => repeat_calls n h1 hn z b c w hb)
  go_enter Tryd.func8, Tryd.ntmps8
  go_wp2_with fail
  have hs : Strs ((w.alloc (.cells Z 5)).alloc (.cells #[.string z] 9)) (w.heap.size + 1) [z] [] := by have := strs_one (w.alloc (.cells Z 5)) z; simpa using this
  with_reducible refine (RC.out _ _ _ hs).mono ?_
  clear hs
  rintro e w1 ⟨L, rfl, hL, hr, hb⟩
  have HB := Aside0.mk (below_step (below_alloc (below_alloc (Below.refl w.heap.size w) _) _) hb)
  have HR := Aside0.mk hr
  have HL := Aside0.mk (show w.heap.size ≤ L by simp at hL; omega)
  clear hL hr hb
  go_wp2_with fail
  go_ret2
  have B1 : Below w1.heap.size w1 ((w1.alloc (.map #[] 0)).alloc (.cells #[.slice (some ⟨L, 0, none⟩) n n, .map (some w1.heap.size), .bool false, .int .i64 0, .int .i64 0, .int .i64 0] 66)) := below_alloc (below_alloc (Below.refl _ _) _) _
  have hsz : (w1.alloc (.map #[] 0)).heap.size = w1.heap.size + 1 := by simp
  have hle := HB.out.size
  refine ⟨w1.heap.size + 1, ⟨L, n, [], w1.heap.size, [], 0⟩, rfl, ?_, below_step HB.out B1⟩
  exact {
    blk := by
      have := blk_new (w1.alloc (.map #[] 0)) (.cells #[.slice (some ⟨L, 0, none⟩) n n, .map (some w1.heap.size), .bool false, .int .i64 0, .int .i64 0, .int .i64 0] 66)
      rw [hsz] at this
      simpa [fresh] using this
    row := by
      have := Strs.below HR.out B1
      rw [← HZ.out] at this
      exact this
    map := by
      have h2 : (w1.alloc (.map #[] 0)).heap[w1.heap.size]? = some (.map #[] 0) := blk_new _ _
      exact (Below.heap_alloc (w1.alloc (.map #[] 0)) _ w1.heap.size (by rw [hsz]; omega)).trans h2
    rows := by simp
    waits := rfl
    apart := by simp
    borns := by simp
    old := by simp
    okg := by show w.heap.size ≤ w1.heap.size + 1; omega
    okL := HL.out
    okM := hle
    oke := by simp
    good := fresh_ok n
    len := by simp [fresh]; omega
    few := by simp }
theorem new_no (n : Int) (hn : n < 1 ∨ 2048 < n) (w : World) : Calls Tryd.prog 8 #[.int .i64 n] w (Say (.tuple #[.pointer none, .int .i64 1]) w) := by
  by_cases h : n < 1
  · have a2 : decide (n < 1) = true := decide_eq_true h
    clear hn
    go_enter Tryd.func8, Tryd.ntmps8
    go_wp2
    go_ret2
    exact ⟨rfl, rfl⟩
  · have a2 : decide (n < 1) = false := decide_eq_false h
    have a4 : decide (2048 < n) = true := decide_eq_true (by omega)
    clear hn
    go_enter Tryd.func8, Tryd.ntmps8
    go_wp2
    go_ret2
    exact ⟨rfl, rfl⟩
end Go.Proofs.YtjbkkmgkckopdaaDoor.Dv
