/- Numbers laid behind a text, and taken from one. -/
import Derived.Test.YtjbkkmgkckopdaaDoorPN0
import Derived.Test.YtjbkkmgkckopdaaDoorNum
import Derived.Test.YtjbkkmgkckopdaaDoorMem
namespace Go.Proofs.YtjbkkmgkckopdaaDoor.Pg
open Go.RowKit Go.Proofs.YtjbkkmgkckopdaaDoorW.PrintWords Go.Proofs.YtjbkkmgkckopdaaDoorW.PrintLast Go.Proofs.YtjbkkmgkckopdaaDoorW.PrintMore Go.Proofs.YtjbkkmgkckopdaaDoor.Num Go.Proofs.YtjbkkmgkckopdaaDoor.Mem
set_option linter.unusedVariables false
set_option linter.unusedSimpArgs false
/-- A block of bytes. -/
def Bts (w : World) (g : Nat) (xs : List Int) : Prop := w.heap[g]? = some (.cells (nums .u8 xs).toArray 5 (0, 0))
theorem info5 : (Tryd.prog.info? 5).map (fun i => (i.zero, i.size, i.bytes)) = some (some (.int .u8 0), 1, 1) := by kernel_rfl
theorem Bts.made (w : World) (m : Nat) : Bts (w.alloc (.cells (madeCells #[.int .u8 0] m) 5)) w.heap.size (List.replicate m 0) := by
  have hl : (madeCells #[Value.int .u8 0] m).toList = nums .u8 (List.replicate m 0) := by
    apply List.ext_getElem
    · simp [nums, madeCells]
    · intro i h1 h2
      simp [nums, madeCells, Nat.mod_one]
  unfold Bts
  rw [blk_new, ← hl, Array.toArray_toList]
theorem Bts.cell {w : World} {g : Nat} {xs : List Int} (h : Bts w g xs) (i : Nat) (hi : i < xs.length) : w.cell? ⟨g, i, none⟩ = some (.int .u8 xs[i]) := by
  rw [blk_cell h i]
  simp [nums, hi]
theorem Bts.set {w : World} {g : Nat} {xs : List Int} (h : Bts w g xs) (i : Nat) (x : Int) : Bts (w.setCell ⟨g, i, none⟩ (.int .u8 x)) g (xs.set i x) := by
  unfold Bts
  rw [blk_set h i _]
  simp [nums, List.map_set]
theorem Bts.str {w : World} {g n cap : Nat} {xs : List Int} (h : Bts w g xs) (hl : xs.length = n) : (convert 61 9 (.slice (some ⟨g, 0, none⟩) n cap)).run Tryd.prog w = .ok (.string (strOfNums xs)) w :=
  run_convert_bytes_arg w 61 5 Tryd.underlying61 Tryd.underlying5 g 0 n cap xs hl (fun i hi => by rw [Nat.zero_add]; rw [h.cell i (by omega)]; simp [List.getD_eq_getElem?_getD, show i < xs.length by omega]) 9 Tryd.underlying9
def beI (k n : Nat) : List Int := (be k n).map fun b => (b.toNat : Int)
theorem str_beI (k n : Nat) : strOfNums (beI k n) = ba (be k n) := by
  unfold strOfNums beI ba
  congr 1
  simp [Function.comp_def]
theorem beI_succ (k n : Nat) : beI (k + 1) n = beI k (n / 256) ++ [((n % 256 : Nat) : Int)] := by
  unfold beI
  rw [be, List.map_append]
  simp only [List.map_cons, List.map_nil, List.append_cancel_left_eq, List.cons.injEq, and_true]
  have : (UInt8.ofNat (n % 256)).toNat = n % 256 := by rw [UInt8.toNat_ofNat']; omega
  rw [this]
theorem beI_length (k n : Nat) : (beI k n).length = k := by rw [beI, List.length_map, be_length]
theorem small_shift (n sz : Nat) (hn : n < 256 ^ sz) : (n : Int) / 2 ^ (8 * sz) = 0 := by
  have : n < 2 ^ (8 * sz) := by rw [Nat.pow_mul]; exact hn
  have e : ((2 : Int) ^ (8 * sz)) = ((2 ^ (8 * sz) : Nat) : Int) := by simp
  rw [e]
  exact Int.ediv_eq_zero_of_lt (by omega) (by omega)
theorem drop_step (nn : Nat) (xs : List Int) (m : Nat) (h : m < xs.length) : beI (m + 1) nn ++ xs.drop (m + 1) = beI m (nn / 256) ++ (xs.set m ((nn : Int) % 256)).drop m := by
  have e4 : ((nn : Int) % 256) = ((nn % 256 : Nat) : Int) := by omega
  rw [beI_succ, List.append_assoc, e4]
  congr 1
  rw [List.drop_eq_getElem_cons (l := xs.set m _) (i := m) (by rw [List.length_set]; omega)]
  simp only [List.getElem_set_self, List.singleton_append, List.cons.injEq, true_and]
  rw [List.drop_set, if_pos (by omega)]
set_option maxHeartbeats 2000000 in
set_option maxRecDepth 100000 in
theorem put_calls (s : ByteArray) (n sz : Nat) (h1 : 1 ≤ sz) (h8 : sz ≤ 8) (hn : n < 256 ^ sz) (hs : s.size ≤ 1099511627776) (w : World) :
    Calls Tryd.prog 56 #[.string s, .int .u64 (n : Int), .int .i64 (sz : Int)] w fun e w' => e = .returned (.tuple #[.string (s ++ ba (be sz n)), .int .i64 0]) ∧ Below w.heap.size w w' := by
  have a1 : ¬ (sz : Int) < 1 := by omega
  have a2 : ¬ (8 : Int) < (sz : Int) := by omega
  have a4 : (0 : Int) ≤ (sz : Int) := by omega
  have hmk := run_make_row' (P := Tryd.prog) 61 5 (.int .u8 0) 1 Tryd.underlying61 info5 rfl .i64 .i64 sz (by omega) (by omega)
  have hsh := small_shift n sz hn
  have HM := Aside0.mk (Bts.made w sz)
  have HB := Aside0.mk (below_alloc (Below.refl w.heap.size w) (.cells (madeCells #[.int .u8 0] sz) 5))
  obtain ⟨fin, hfin⟩ : ∃ fin, fin = beI sz n := ⟨_, rfl⟩
  have HX := Aside0.mk (show fin = beI sz n ++ (List.replicate sz (0 : Int)).drop sz by rw [hfin]; simp)
  have HR := Aside0.mk (show s ++ ba (be sz n) = s ++ strOfNums fin by rw [hfin, str_beI])
  generalize s ++ ba (be sz n) = res at *
  clear hfin
  clear hn
  go_enter Tryd.func56, Tryd.ntmps56
  have h : (sz : Int) < 8 ∨ ¬ (sz : Int) < 8 := Classical.em _
  rcases h with a3 | a3
  all_goals
    go_wp2_with fail
    go_loopg [1, 9] sz (fun kx v1 v9 wr => ∃ (j nn : Nat) (xs : List Int), v1 = .int .u64 (nn : Int) ∧ v9 = .int .i64 ((j : Int) - 1) ∧ j ≤ kx ∧ Aside0 (j ≤ sz ∧ xs.length = sz) ∧ Aside0 (Bts wr w.heap.size xs) ∧ Aside0 (fin = beI j nn ++ xs.drop j) ∧ Aside0 (Below w.heap.size w wr))
    case atStart => exact ⟨sz, n, _, rfl, by simp, Nat.le_refl _, ⟨Nat.le_refl _, by simp⟩, HM, HX, HB⟩
    case round =>
      clear HM HX HB
      obtain ⟨j, nn, xs, rfl, rfl, hj, HL, HM, HX, HB⟩ := hrel
      have hl := HL.out
      cases j with
      | zero =>
        have e1 : (((0 : Nat) : Int) - 1) = -1 := rfl
        rw [e1]
        have hcv := HM.out.str (n := sz) (cap := sz) hl.2
        have HX2 := Aside0.mk (show fin = xs by have := HX.out; simpa [beI, be] using this)
        clear HX
        have hsz : (strOfNums xs).size = sz := by unfold strOfNums; simp [ByteArray.size]; exact hl.2
        have hcap : s.size + (strOfNums xs).size ≤ 9223372036854775807 := by omega
        go_wp2_with fail
        go_ret2
        exact ⟨by rw [HR.out, HX2.out]; rfl, HB.out⟩
      | succ m =>
        have e1 : (((m + 1 : Nat) : Int) - 1) = (m : Int) := by omega
        rw [e1]
        have b1 : (0 : Int) ≤ (m : Int) := by omega
        have b2 : (m : Int) < (sz : Int) := by omega
        have hc := HM.out.cell m (by omega)
        have hf := blk_frozen HM.out m
        have HM2 := Aside0.mk (HM.out.set m ((nn : Int) % 256))
        have HB2 := Aside0.mk (below_set HB.out (g := w.heap.size) (j := m) (v := .int .u8 ((nn : Int) % 256)) (Nat.le_refl _))
        have HX2 := HX.out.trans (drop_step nn xs m (by omega))
        have HX3 := Aside0.mk HX2
        clear HX HX2 HM HB
        go_wp2_with fail
        go_roundg m
        case measure => omega
        case rel => exact ⟨m, nn / 256, _, by simp, by simp, Nat.le_refl _, ⟨by omega, by rw [List.length_set]; exact hl.2⟩, HM2, HX3, HB2⟩
end Go.Proofs.YtjbkkmgkckopdaaDoor.Pg
