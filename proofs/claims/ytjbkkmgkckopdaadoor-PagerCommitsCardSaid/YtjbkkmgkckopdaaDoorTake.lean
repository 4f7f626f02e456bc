/- A number taken from a text. -/
import Derived.Test.YtjbkkmgkckopdaaDoorField
namespace Go.Proofs.YtjbkkmgkckopdaaDoor.Pg
open Go.RowKit Go.Proofs.YtjbkkmgkckopdaaDoorW.PrintWords Go.Proofs.YtjbkkmgkckopdaaDoorW.PrintLast Go.Proofs.YtjbkkmgkckopdaaDoorW.PrintMore Go.Proofs.YtjbkkmgkckopdaaDoor.Num Go.Proofs.YtjbkkmgkckopdaaDoor.Mem
set_option linter.unusedVariables false
set_option linter.unusedSimpArgs false
theorem u64 {x : Int} (h : 0 ≤ x) (h' : x ≤ 18446744073709551615) : IntKind.u64.wrap x = x := by
  rw [IntKind.wrap_u64]; omega
theorem or_byte (m b : Nat) (hm : m < 72057594037927936) (hb : b < 256) : Go.bits .or .u64 (IntKind.u64.wrap ((m : Int) * 256)) (b : Int) = ((m * 256 + b : Nat) : Int) := by
  rw [u64 (by omega) (by omega)]
  have e1 : (BitVec.ofInt 64 ((m : Int) * 256)).toNat = m * 256 := by
    rw [show (m : Int) * 256 = ((m * 256 : Nat) : Int) by omega, BitVec.ofInt_natCast, BitVec.toNat_ofNat]; omega
  have e2 : (BitVec.ofInt 64 (b : Int)).toNat = b := by rw [BitVec.ofInt_natCast, BitVec.toNat_ofNat]; omega
  show IntKind.u64.wrap ((BitVec.ofInt 64 ((m : Int) * 256) ||| BitVec.ofInt 64 (b : Int)).toNat : Int) = _
  rw [BitVec.toNat_or, e1, e2]
  have e3 : m * 256 ||| b = m * 256 + b := by
    have := Nat.two_pow_add_eq_or_of_lt (i := 8) (b := b) (by omega) m
    rw [show 2 ^ 8 * m = m * 256 by omega] at this
    exact this.symm
  rw [e3, u64 (by omega) (by omega)]
theorem val_take_lt (l : List UInt8) (i : Nat) (h7 : i ≤ 7) : val (l.take i) < 72057594037927936 := by
  refine Nat.lt_of_lt_of_le (val_lt _) (Nat.le_trans (Nat.pow_le_pow_right (by omega) (?_ : _ ≤ 7)) (by decide))
  rw [List.length_take]; omega
set_option maxHeartbeats 2000000 in
set_option maxRecDepth 100000 in
theorem take_calls (s : ByteArray) (i sz : Nat) (h1 : 1 ≤ sz) (h8 : sz ≤ 8) (hi : i + sz ≤ s.size) (hs : s.size ≤ 1099511627776) (w : World) :
    Calls Tryd.prog 60 #[.string s, .int .i64 (i : Int), .int .i64 (sz : Int)] w fun e w' => e = .returned (.tuple #[.int .u64 ((val ((s.data.toList.drop i).take sz) : Nat) : Int), .int .i64 0]) ∧ Below w.heap.size w w' := by
  have a1 : ¬ (sz : Int) < 1 := by omega
  have a2 : ¬ (8 : Int) < (sz : Int) := by omega
  have a3 : ¬ (i : Int) < 0 := by omega
  have a4 : ¬ (s.size : Int) < (i : Int) := by omega
  have a5 : ¬ (s.size : Int) - (i : Int) < (sz : Int) := by omega
  have a6 : (0 : Int) ≤ (i : Int) := by omega
  have a7 : (i : Int) ≤ (i : Int) + (sz : Int) := by omega
  have a8 : (i : Int) + (sz : Int) ≤ (s.size : Int) := by omega
  have ks := fun W => run_slice_string (P := Tryd.prog) W 9 s .i64 .i64 (i : Int) ((i : Int) + (sz : Int)) Tryd.underlying9 (by omega) (by omega) (by omega)
  obtain ⟨t, ht⟩ : ∃ t, s.extract (i : Int).toNat ((i : Int) + (sz : Int)).toNat = t := ⟨_, rfl⟩
  have htl : t.data.toList = (s.data.toList.drop i).take sz := by
    rw [← ht, extract_data]
    congr 1 <;> omega
  rw [ht] at ks
  have hts : t.size = sz := by
    rw [← size_data, htl, List.length_take, List.length_drop, size_data]
    omega
  have hw1 : IntKind.i64.wrap ((s.size : Int) - (i : Int)) = (s.size : Int) - (i : Int) := by rw [IntKind.wrap_i64]; omega
  have hw2 : IntKind.i64.wrap ((i : Int) + (sz : Int)) = (i : Int) + (sz : Int) := by rw [IntKind.wrap_i64]; omega
  rw [← htl]
  subst hts
  clear ht htl
  have kb := fun W => print_bytes (P := Tryd.prog) 9 61 5 Tryd.underlying9 Tryd.underlying61 Tryd.underlying5 t W
  go_enter Tryd.func60, Tryd.ntmps60
  go_wp2
  go_loopg [8, 43] t.size (fun kq v8 v43 w' => ∃ (j : Nat), v8 = .int .u64 ((val (t.data.toList.take j) : Nat) : Int) ∧ v43 = .int .i64 (j : Int) ∧ j ≤ t.size ∧ t.size - j ≤ kq ∧ Aside0 (w' = Lib.bytesWorld w 5 t))
  case atStart => exact ⟨0, rfl, rfl, Nat.zero_le _, by omega, ⟨rfl⟩⟩
  case round =>
    clear ks kb
    obtain ⟨j, rfl, rfl, hj, hk, hw⟩ := hrel
    obtain rfl := hw.out
    by_cases hgo : j < t.size
    · have q1 : (j : Int) < (t.size : Int) := by omega
      have q2 : (0 : Int) ≤ (j : Int) := by omega
      have hjl : j < t.data.toList.length := by rw [size_data]; exact hgo
      have hcell := Lib.bytesWorld_cell w 5 t j (by omega)
      have hb : ((t.data.toList.getD j 0).toNat : Int) = ((t.data.toList[j]).toNat : Int) := by simp [List.getD_eq_getElem?_getD, List.getElem?_eq_getElem (by simpa using hjl : j < t.data.size)]
      rw [hb] at hcell
      have hob := or_byte (val (t.data.toList.take j)) (t.data.toList[j]).toNat (val_take_lt _ _ (by omega)) (t.data.toList[j]).toNat_lt
      rw [← val_take_succ _ _ hjl] at hob
      have hbl := (t.data.toList[j]).toNat_lt
      clear hb
      generalize ((t.data.toList[j]).toNat) = bb at *
      generalize hvn : val (t.data.toList.take (j + 1)) = vn at *
      have HV := Aside0.mk hvn
      clear hvn
      have hbb : IntKind.u64.wrap (bb : Int) = (bb : Int) := u64 (by omega) (by omega)
      go_wp2
      go_roundg (t.size - (j + 1))
      case measure => omega
      case rel => exact ⟨j + 1, by rw [HV.out], by simp, by omega, Nat.le_refl _, ⟨rfl⟩⟩
    · obtain rfl : j = t.size := by omega
      rw [List.take_of_length_le (by rw [size_data]; exact Nat.le_refl _)]
      go_wp2
      go_ret2
      exact ⟨rfl, bytes_below (Below.refl _ _) (Nat.le_refl _) 5 t⟩
end Go.Proofs.YtjbkkmgkckopdaaDoor.Pg
