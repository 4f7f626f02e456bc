/- The sum of a text, as the program reckons it. -/
import Derived.Test.YtjbkkmgkckopdaaDoorPN0
import Derived.Test.YtjbkkmgkckopdaaDoorNum
namespace Go.Proofs.YtjbkkmgkckopdaaDoor.Pg
open Go.RowKit Go.Proofs.YtjbkkmgkckopdaaDoorW.PrintWords Go.Proofs.YtjbkkmgkckopdaaDoorW.PrintLast Go.Proofs.YtjbkkmgkckopdaaDoorW.PrintMore
set_option linter.unusedVariables false
set_option linter.unusedSimpArgs false
def crcRow : List Int := [0, 498536548, 997073096, 651767980, 1994146192, 1802195444, 1303535960, 1342533948, 3988292384, 4027552580, 3604390888, 3412177804, 2607071920, 2262029012, 2685067896, 3183342108]
/-- The table lies where the program has it. -/
def RowAt (w : World) : Prop := ∀ i, i < 16 → w.cell? ⟨0, i, none⟩ = some (.int .u32 (crcRow.getD i 0))
theorem and15 (x : Int) : 0 ≤ bits .and .u32 x 15 ∧ bits .and .u32 x 15 < 16 := by
  have h15 : (BitVec.ofInt 32 15).toNat = 2 ^ 4 - 1 := by decide
  have key : (BitVec.ofInt 32 x &&& BitVec.ofInt 32 15).toNat = (x % ((2 ^ 32 : Nat) : Int)).toNat % 2 ^ 4 := by
    rw [BitVec.toNat_and, BitVec.toNat_ofInt, h15, Nat.and_two_pow_sub_one_eq_mod]
  have e : bits .and .u32 x 15 = IntKind.u32.wrap ((BitVec.ofInt 32 x &&& BitVec.ofInt 32 15).toNat : Nat) := rfl
  rw [e, key, IntKind.wrap_u32]
  omega
theorem xor_range (x y : Int) : 0 ≤ bits .xor .u32 x y ∧ bits .xor .u32 x y < 4294967296 := by
  have e : bits .xor .u32 x y = IntKind.u32.wrap ((BitVec.ofInt 32 x ^^^ BitVec.ofInt 32 y).toNat : Nat) := rfl
  rw [e, IntKind.wrap_u32]
  omega
def crcHalf (x : Int) : Int := bits .xor .u32 (x / 16) (crcRow.getD (bits .and .u32 x 15).toNat 0)
def crcIn (r b : Int) : Int := crcHalf (crcHalf (bits .xor .u32 r (b % 4294967296)))
def crcGo (r : Int) : List UInt8 → Int
  | [] => r
  | b :: l => crcGo (crcIn r (b.toNat : Int)) l
def crcOn (s0 : Int) (s : ByteArray) : Int := bits .xor .u32 IntKind.u32.max (crcGo (bits .xor .u32 IntKind.u32.max s0) s.data.toList)
set_option maxHeartbeats 2000000 in
set_option maxRecDepth 100000 in
theorem on_calls (s0 : Int) (s : ByteArray) (hs : s.size ≤ 1099511627776) (w : World) (hr : RowAt w) : Calls Tryd.prog 58 #[.int .u32 s0, .string s] w fun e w' => e = .returned (.int .u32 (crcOn s0 s)) ∧ w = w' := by
  have h0 : ∀ x : Int, 0 ≤ bits .and .u32 x 15 := fun x => (and15 x).1
  have h1 : ∀ x : Int, bits .and .u32 x 15 < 16 := fun x => (and15 x).2
  have HC : ∀ x : Int, w.cell? ⟨0, (bits .and .u32 x 15).toNat, none⟩ = some (.int .u32 (crcRow.getD (bits .and .u32 x 15).toNat 0)) := fun x => hr _ (by have := and15 x; omega)
  have HE := Aside0.mk (show crcOn s0 s = bits .xor .u32 IntKind.u32.max (crcGo (bits .xor .u32 IntKind.u32.max s0) s.data.toList) from rfl)
  generalize crcOn s0 s = res at *
  clear hr
  go_enter Tryd.func58, Tryd.ntmps58
  go_wp2_with fail
  go_loopg [5, 6, 11] s.size (fun kx v5 v6 v11 wr => ∃ (k : Nat) (r : Int), v5 = .int .u32 r ∧ v11 = .int .i64 k ∧ k ≤ s.size ∧ s.size - k ≤ kx ∧ Aside0 (w = wr) ∧ Aside0 (res = bits .xor .u32 IntKind.u32.max (crcGo r (s.data.toList.drop k))))
  case atStart => exact ⟨0, _, rfl, rfl, Nat.zero_le _, by omega, ⟨rfl⟩, HE⟩
  case round =>
    clear HE
    obtain ⟨k, r, rfl, rfl, hk, hkx, HW, HE⟩ := hrel
    obtain rfl := HW.out
    by_cases hgo : k < s.size
    · have a1 : (k : Int) < (s.size : Int) := by omega
      have hd : s.data.toList.drop k = s[k] :: s.data.toList.drop (k + 1) := List.drop_eq_getElem_cons (by rw [Array.length_toList]; exact hgo)
      have HE2 := HE.out
      rw [hd, crcGo] at HE2
      have HE3 := Aside0.mk HE2
      clear HE HE2 hd
      have w1 : IntKind.i64.wrap ((k : Int) + 1) = (k : Int) + 1 := by rw [IntKind.wrap_i64]; omega
      go_wp2_with fail
      go_roundg (s.size - (k + 1))
      case measure => omega
      case rel => exact ⟨k + 1, _, rfl, by simp, by omega, Nat.le_refl _, ⟨rfl⟩, HE3⟩
    · obtain rfl : k = s.size := by omega
      have HE2 := HE.out
      rw [List.drop_eq_nil_of_le (by rw [Array.length_toList]; exact Nat.le_refl _), crcGo] at HE2
      have HE3 := Aside0.mk HE2
      clear HE HE2
      go_wp2_with fail
      go_ret
      exact ⟨by rw [HE3.out]; rfl, rfl⟩
/-- The sum of a text. -/
def crcSum (s : ByteArray) : Nat := (crcOn 0 s).toNat
theorem crcSum_int (s : ByteArray) : crcOn 0 s = (crcSum s : Int) := by
  have := xor_range IntKind.u32.max (crcGo (bits .xor .u32 IntKind.u32.max 0) s.data.toList)
  unfold crcSum crcOn
  omega
theorem crcSum_lt (s : ByteArray) : crcSum s < 4294967296 := by
  have := xor_range IntKind.u32.max (crcGo (bits .xor .u32 IntKind.u32.max 0) s.data.toList)
  unfold crcSum crcOn
  omega
theorem sum_calls (s : ByteArray) (hs : s.size ≤ 1099511627776) (w : World) (hr : RowAt w) : Calls Tryd.prog 45 #[.string s] w fun e w' => e = .returned (.int .u32 (crcSum s : Int)) ∧ w = w' := by
  have H := Aside0.mk (on_calls 0 s hs w hr)
  rw [crcSum_int] at H
  go_enter Tryd.func45, Tryd.ntmps45
  go_wp2_with fail
  refine H.out.mono ?_
  rintro e w' ⟨rfl, rfl⟩
  go_wp2_with fail
  go_ret
  exact ⟨rfl, rfl⟩
end Go.Proofs.YtjbkkmgkckopdaaDoor.Pg
