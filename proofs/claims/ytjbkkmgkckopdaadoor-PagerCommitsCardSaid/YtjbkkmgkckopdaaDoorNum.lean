/- Numbers as bytes, plainly. -/
namespace Go.Proofs.YtjbkkmgkckopdaaDoor.Num
set_option linter.unusedVariables false
set_option linter.unusedSimpArgs false
def be : Nat → Nat → List UInt8
  | 0, _ => []
  | k + 1, n => be k (n / 256) ++ [UInt8.ofNat (n % 256)]
def val (l : List UInt8) : Nat := l.foldl (fun a b => a * 256 + b.toNat) 0
def ba (l : List UInt8) : ByteArray := ⟨l.toArray⟩
theorem be_length : ∀ k n, (be k n).length = k
  | 0, _ => rfl
  | k + 1, n => by rw [be, List.length_append, be_length k]; rfl
theorem val_snoc (l : List UInt8) (b : UInt8) : val (l ++ [b]) = val l * 256 + b.toNat := by simp [val]
theorem val_be : ∀ k n, n < 256 ^ k → val (be k n) = n
  | 0, n, h => by
    have : n = 0 := by simpa using h
    rw [this]; rfl
  | k + 1, n, h => by
    rw [be, val_snoc, val_be k (n / 256) (by rw [Nat.pow_succ] at h; omega)]
    have : (UInt8.ofNat (n % 256)).toNat = n % 256 := by rw [UInt8.toNat_ofNat']; omega
    rw [this]; omega
theorem val_lt' : ∀ (l : List UInt8) (a : Nat), l.foldl (fun a b => a * 256 + b.toNat) a < (a + 1) * 256 ^ l.length
  | [], a => by simp
  | b :: l, a => by
    have h := val_lt' l (a * 256 + b.toNat)
    have hb := b.toNat_lt
    refine Nat.lt_of_lt_of_le h ?_
    rw [List.length_cons, Nat.pow_succ, Nat.mul_comm (256 ^ l.length) 256, ← Nat.mul_assoc]
    exact Nat.mul_le_mul_right _ (by omega)
theorem val_lt (l : List UInt8) : val l < 256 ^ l.length := by
  have h := val_lt' l 0
  rw [Nat.zero_add, Nat.one_mul] at h
  exact h
theorem ba_data (l : List UInt8) : (ba l).data.toList = l := rfl
theorem ba_size (l : List UInt8) : (ba l).size = l.length := by simp [ba, ByteArray.size]
theorem ba_of (s : ByteArray) : ba s.data.toList = s := rfl
theorem ba_append (a b : List UInt8) : ba a ++ ba b = ba (a ++ b) := by
  apply ByteArray.ext; simp [ba]
theorem app_ba (a : ByteArray) (b : List UInt8) : a ++ ba b = ba (a.data.toList ++ b) := by rw [← ba_append, ba_of]
theorem ba_inj {a b : List UInt8} (h : ba a = ba b) : a = b := by
  have := congrArg (fun s : ByteArray => s.data.toList) h
  exact this
theorem size_data (s : ByteArray) : s.data.toList.length = s.size := by rw [Array.length_toList]; rfl
theorem extract_data (s : ByteArray) (a b : Nat) : (s.extract a b).data.toList = (s.data.toList.drop a).take (b - a) := by
  simp [ByteArray.data_extract, Array.toList_extract, List.extract_eq_take_drop]
/-- A number of a text; none where the text is too short. -/
def takeN (l : List UInt8) (i sz : Nat) : Option Nat := if i + sz ≤ l.length then some (val ((l.drop i).take sz)) else none
theorem val_take_succ (l : List UInt8) (i : Nat) (h : i < l.length) : val (l.take (i + 1)) = val (l.take i) * 256 + (l[i]).toNat := by
  rw [List.take_add_one, List.getElem?_eq_getElem h, Option.toList_some, val_snoc]
theorem take_part (a b c : List UInt8) : ((a ++ b ++ c).drop a.length).take b.length = b := by
  simp [List.drop_append, List.take_append]
end Go.Proofs.YtjbkkmgkckopdaaDoor.Num
