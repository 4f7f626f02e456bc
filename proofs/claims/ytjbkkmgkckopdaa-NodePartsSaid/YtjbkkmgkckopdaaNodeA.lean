import Derived.Test.YtjbkkmgkckopdaaPNx
namespace Go.Proofs.Ytjbkkmgkckopdaa.Pure
open Go.RowKit Go.Proofs.Ytjbkkmgkckopdaa.PN Go.Proofs.YtjbkkmgkckopdaaW.PrintWords Go.Proofs.YtjbkkmgkckopdaaW.PrintLast Go.Proofs.YtjbkkmgkckopdaaW.PrintMore
set_option linter.unusedVariables false
set_option linter.unusedSimpArgs false

/-! ### numbers as bytes -/
def be : Nat → Nat → List UInt8
  | 0, _ => []
  | k + 1, n => be k (n / 256) ++ [UInt8.ofNat (n % 256)]
def val (l : List UInt8) : Nat := l.foldl (fun a b => a * 256 + b.toNat) 0
def ba (l : List UInt8) : ByteArray := ⟨l.toArray⟩
theorem be_length : ∀ k n, (be k n).length = k
  | 0, _ => rfl
  | k + 1, n => by rw [be, List.length_append, be_length k]; rfl
theorem val_snoc (l : List UInt8) (b : UInt8) : val (l ++ [b]) = val l * 256 + b.toNat := by simp [val]
theorem val_be : ∀ k n, n < 256 ^ k → val (be k n) = n
  | 0, n, h => by
    have : n = 0 := by simpa using h
    rw [this]; rfl
  | k + 1, n, h => by
    rw [be, val_snoc, val_be k (n / 256) (by rw [Nat.pow_succ] at h; omega)]
    have : (UInt8.ofNat (n % 256)).toNat = n % 256 := by rw [UInt8.toNat_ofNat']; omega
    rw [this]; omega
theorem val_lt' : ∀ (l : List UInt8) (a : Nat), l.foldl (fun a b => a * 256 + b.toNat) a < (a + 1) * 256 ^ l.length
  | [], a => by simp
  | b :: l, a => by
    have h := val_lt' l (a * 256 + b.toNat)
    have hb := b.toNat_lt
    refine Nat.lt_of_lt_of_le h ?_
    rw [List.length_cons, Nat.pow_succ, Nat.mul_comm (256 ^ l.length) 256, ← Nat.mul_assoc]
    exact Nat.mul_le_mul_right _ (by omega)
theorem val_lt (l : List UInt8) : val l < 256 ^ l.length := by
  have h := val_lt' l 0
  rw [Nat.zero_add, Nat.one_mul] at h
  exact h
theorem w64 {x : Int} (h : -9223372036854775808 ≤ x) (h' : x ≤ 9223372036854775807) : wrap64 x = x := by unfold wrap64; omega
theorem u64 {x : Int} (h : 0 ≤ x) (h' : x ≤ 18446744073709551615) : IntKind.u64.wrap x = x := by
  rw [IntKind.wrap_u64]; omega
theorem ba_data (l : List UInt8) : (ba l).data.toList = l := rfl
theorem ba_size (l : List UInt8) : (ba l).size = l.length := by simp [ba, ByteArray.size]
theorem ba_of (s : ByteArray) : ba s.data.toList = s := rfl
theorem ba_append (a b : List UInt8) : ba a ++ ba b = ba (a ++ b) := by
  apply ByteArray.ext; simp [ba]
theorem app_ba (a : ByteArray) (b : List UInt8) : a ++ ba b = ba (a.data.toList ++ b) := by rw [← ba_append, ba_of]
def beI (k n : Nat) : List Int := (be k n).map fun b => (b.toNat : Int)
theorem str_beI (k n : Nat) : strOfNums (beI k n) = ba (be k n) := by
  unfold strOfNums beI ba
  congr 1
  simp [Function.comp_def]
theorem beI_succ (k n : Nat) : beI (k + 1) n = beI k (n / 256) ++ [((n % 256 : Nat) : Int)] := by
  unfold beI
  rw [be, List.map_append]
  simp only [List.map_cons, List.map_nil, List.append_cancel_left_eq, List.cons.injEq, and_true]
  have : (UInt8.ofNat (n % 256)).toNat = n % 256 := by rw [UInt8.toNat_ofNat']; omega
  rw [this]
theorem beI_length (k n : Nat) : (beI k n).length = k := by rw [beI, List.length_map, be_length]

/-! ### field.Put -/
theorem put_loop (s : ByteArray) : ∀ (j : Nat) (n : Nat) (xs : List Int), j ≤ xs.length → xs.length ≤ 8 → s.size + xs.length ≤ 9223372036854775807 →
    Ev (fun k => field_Put.l0 k s (n : Int) xs ((j : Int) - 1)) (s ++ strOfNums (beI j n ++ xs.drop j), 0)
  | 0, n, xs, h, h8, hs => by
    refine Ev.step (fun k => by rw [field_Put.l0, if_neg (by omega), if_pos (by rw [strOfNums_size]; omega)]) ?_
    exact Ev.now _
  | j + 1, n, xs, h, h8, hs => by
    refine Ev.step (fun k => by rw [field_Put.l0, if_pos (by omega), if_pos (by omega), if_pos (by omega)]) ?_
    have e1 : (((j + 1 : Nat) : Int) - 1).toNat = j := by omega
    have e2 : wrap64 (((j + 1 : Nat) : Int) - 1 - 1) = (j : Int) - 1 := by rw [w64 (by omega) (by omega)]; omega
    have e3 : ((n : Int) / 256) = ((n / 256 : Nat) : Int) := by omega
    have e4 : ((n : Int) % 256) = ((n % 256 : Nat) : Int) := by omega
    rw [e1, e2, e3, e4]
    have ih := put_loop s j (n / 256) (xs.set j ((n % 256 : Nat) : Int)) (by rw [List.length_set]; omega) (by rw [List.length_set]; omega) (by rw [List.length_set]; omega)
    have e5 : beI j (n / 256) ++ (xs.set j ((n % 256 : Nat) : Int)).drop j = beI (j + 1) n ++ xs.drop (j + 1) := by
      rw [beI_succ, List.append_assoc]
      congr 1
      rw [List.drop_eq_getElem_cons (by rw [List.length_set]; omega)]
      simp only [List.getElem_set_self, List.singleton_append, List.cons.injEq, true_and]
      rw [List.drop_set, if_pos (by omega)]
    rw [e5] at ih
    exact ih
theorem put_ev (s : ByteArray) (n sz : Nat) (h1 : 1 ≤ sz) (h8 : sz ≤ 8) (hn : n < 256 ^ sz) (hs : s.size ≤ 1099511627776) :
    Ev (fun k => field_Put.f k s (n : Int) (sz : Int)) (s ++ ba (be sz n), 0) := by
  have tail : Ev (fun k => field_Put.j0 k s (n : Int) (sz : Int) false) (s ++ ba (be sz n), 0) := by
    refine Ev.step (fun k => by rw [field_Put.j0, if_neg (by decide), if_pos (by omega), if_pos (by omega)]) ?_
    have ih := put_loop s sz n (List.replicate sz 0) (by simp) (by simpa using h8) (by simp; omega)
    rw [w64 (by omega) (by omega), Int.toNat_natCast]
    rw [List.drop_of_length_le (by simp), List.append_nil, str_beI] at ih
    exact ih
  by_cases h : sz < 8
  · refine Ev.congr (fun k => by rw [field_Put.f, if_neg (by omega), if_neg (by omega), if_pos (by omega), if_pos (by rw [w64 (by omega) (by omega)]; omega)]) ?_
    have e : decide (shr .u64 (n : Int) (wrap64 (8 * (sz : Int))) > 0) = false := by
      apply decide_eq_false
      rw [w64 (by omega) (by omega)]
      have e1 : min (8 * (sz : Int)).toNat IntKind.u64.bits = 8 * sz := by show min (8 * (sz : Int)).toNat 64 = 8 * sz; omega
      rw [shr, e1]
      have e2 : ((n : Int) / 2 ^ (8 * sz)) = ((n / 2 ^ (8 * sz) : Nat) : Int) := by simp
      rw [e2, Nat.div_eq_of_lt (by rw [Nat.pow_mul]; exact hn)]
      decide
    rw [e]
    exact tail
  · exact Ev.congr (fun k => by rw [field_Put.f, if_neg (by omega), if_neg (by omega), if_neg (by omega)]) tail

/-! ### the reference's Put -/
theorem rput_inner (s : ByteArray) (n sz j : Nat) (xs : List Int) (r : ByteArray × Int) (hj : j ≤ 7) (hx : xs.length ≤ 8) (hsz : 1 ≤ sz) (hsz8 : sz ≤ 8) : ∀ (d m i : Nat), i + d = j → m < 18446744073709551616 → (j + 1 = sz → m / 256 ^ d ≤ 255) →
    Ev (fun k => rollbookref01_Put.l0 k s (n : Int) (sz : Int) (xs ++ [((m / 256 ^ d % 256 : Nat) : Int)]) ((j : Int) - 1)) r → Ev (fun k => rollbookref01_Put.l1 k s (n : Int) (sz : Int) xs (j : Int) (m : Int) (i : Int)) r
  | 0, m, i, hi, hm, hq, h => by
    have e1 : wrap64 ((sz : Int) - 1) = (sz : Int) - 1 := w64 (by omega) (by omega)
    have e2 : wrap64 ((j : Int) - 1) = (j : Int) - 1 := w64 (by omega) (by omega)
    have e3 : Int.tmod (m : Int) 256 % 256 = ((m / 256 ^ 0 % 256 : Nat) : Int) := by
      rw [Int.tmod_eq_emod_of_nonneg (by omega)]; simp
    by_cases c : (j : Int) = (sz : Int) - 1
    · have hq' := hq (by omega)
      rw [Nat.pow_zero, Nat.div_one] at hq'
      refine Ev.step (fun k => by rw [rollbookref01_Put.l1, if_neg (by omega), e1, if_pos c, if_neg (by omega), if_pos (by omega), e2, e3]) ?_
      exact h
    · refine Ev.step (fun k => by rw [rollbookref01_Put.l1, if_neg (by omega), e1, if_neg c, if_pos (by omega), e2, e3]) ?_
      exact h
  | d + 1, m, i, hi, hm, hq, h => by
    have e1 : wrap64 ((i : Int) + 1) = ((i + 1 : Nat) : Int) := by rw [w64 (by omega) (by omega)]; omega
    have e2 : IntKind.u64.wrap (Int.tdiv (m : Int) 256) = ((m / 256 : Nat) : Int) := by
      rw [Int.tdiv_eq_ediv_of_nonneg (by omega), u64 (by omega) (by omega)]; omega
    refine Ev.step (fun k => by rw [rollbookref01_Put.l1, if_pos (by omega), e1, e2]) ?_
    have e3 : m / 256 / 256 ^ d = m / 256 ^ (d + 1) := by rw [Nat.div_div_eq_div_mul, Nat.pow_succ, Nat.mul_comm]
    refine rput_inner s n sz j xs r hj hx hsz hsz8 d (m / 256) (i + 1) (by omega) (by omega) (by rw [e3]; exact hq) ?_
    rw [e3]
    exact h
theorem rput_loop (s : ByteArray) (n sz : Nat) (h1 : 1 ≤ sz) (h8 : sz ≤ 8) (hn : n < 256 ^ sz) (hn' : n < 18446744073709551616) (hs : s.size ≤ 1099511627776) : ∀ (j : Nat), j ≤ sz →
    Ev (fun k => rollbookref01_Put.l0 k s (n : Int) (sz : Int) (beI (sz - j) (n / 256 ^ j)) ((j : Int) - 1)) (s ++ ba (be sz n), 0)
  | 0, h => by
    refine Ev.step (fun k => by rw [rollbookref01_Put.l0, if_neg (by omega), if_pos (by rw [strOfNums_size, beI_length]; omega)]) ?_
    rw [Nat.pow_zero, Nat.div_one, Nat.sub_zero, str_beI]
    exact Ev.now _
  | j + 1, h => by
    refine Ev.step (fun k => by rw [rollbookref01_Put.l0, if_pos (by omega)]) ?_
    have e1 : (((j + 1 : Nat) : Int) - 1) = (j : Int) := by omega
    rw [e1]
    have hi := rput_loop s n sz h1 h8 hn hn' hs j (by omega)
    refine rput_inner s n sz j _ _ (by omega) (by rw [beI_length]; omega) h1 h8 j n 0 (by omega) hn' (fun hh => ?_) ?_
    · have : n < 256 ^ j * 256 := by rw [← Nat.pow_succ, show j.succ = sz from hh]; exact hn
      have := (Nat.div_lt_iff_lt_mul (k := 256 ^ j) (x := n) (y := 256) (Nat.pow_pos (by omega))).2 (by rw [Nat.mul_comm]; exact this)
      omega
    · have e2 : sz - j = (sz - (j + 1)) + 1 := by omega
      rw [e2, beI_succ] at hi
      rw [Nat.div_div_eq_div_mul, ← Nat.pow_succ] at hi
      exact hi
theorem pow_le (sz n : Nat) (h8 : sz ≤ 8) (hn : n < 256 ^ sz) : n < 18446744073709551616 :=
  Nat.lt_of_lt_of_le hn (Nat.le_trans (Nat.pow_le_pow_right (by omega) h8) (by decide))
theorem rput_ev (s : ByteArray) (n sz : Nat) (h1 : 1 ≤ sz) (h8 : sz ≤ 8) (hn : n < 256 ^ sz) (hs : s.size ≤ 1099511627776) :
    Ev (fun k => rollbookref01_Put.f k s (n : Int) (sz : Int)) (s ++ ba (be sz n), 0) := by
  have e : decide ((sz : Int) > 8) = false := decide_eq_false (by omega)
  refine Ev.congr (fun k => by rw [rollbookref01_Put.f, if_neg (by omega), e]) ?_
  have e2 : wrap64 ((sz : Int) - 1) = (sz : Int) - 1 := w64 (by omega) (by omega)
  refine Ev.step (fun k => by rw [rollbookref01_Put.j0, if_neg (by decide), e2]) ?_
  have h := rput_loop s n sz h1 h8 hn (pow_le sz n h8 hn) hs sz (Nat.le_refl _)
  rw [Nat.sub_self] at h
  exact h
theorem number_ev (n sz : Nat) (h1 : 1 ≤ sz) (h8 : sz ≤ 8) (hn : n < 256 ^ sz) : Ev (fun k => rollbookref04_Number.f k (n : Int) (sz : Int)) (ba (be sz n)) := by
  have hn' := pow_le sz n h8 hn
  have e : IntKind.u64.wrap (n : Int) = (n : Int) := u64 (by omega) (by omega)
  refine Ev.congr (fun k => by rw [rollbookref04_Number.f, e]) ?_
  have h := rput_ev (⟨#[]⟩ : ByteArray) n sz h1 h8 hn (by decide)
  have e2 : (⟨#[]⟩ : ByteArray) ++ ba (be sz n) = ba (be sz n) := ba_append [] _
  rw [e2] at h
  exact Ev.bind h (Ev.now _)

/-! ### Take -/
def takeN (l : List UInt8) (i sz : Nat) : Option Nat := if i + sz ≤ l.length then some (val ((l.drop i).take sz)) else none
def tkR : Option Nat → Int × Int
  | some n => ((n : Int), 0)
  | none => (0, 3)
theorem bt_nat (s : ByteArray) (i : Nat) (h : i < s.data.toList.length) : bt s (i : Int) = ((s.data.toList[i]).toNat : Int) := by
  rw [← rd_bytesOf]
  unfold rd bytesOf
  simp [List.getD_eq_getElem?_getD, List.getElem?_eq_getElem (by simpa using h : i < s.data.size)]
theorem or_byte (m b : Nat) (hm : m < 72057594037927936) (hb : b < 256) : Go.bits .or .u64 (IntKind.u64.wrap ((m : Int) * 256)) (b : Int) = ((m * 256 + b : Nat) : Int) := by
  rw [u64 (by omega) (by omega)]
  have e1 : (BitVec.ofInt 64 ((m : Int) * 256)).toNat = m * 256 := by
    rw [show (m : Int) * 256 = ((m * 256 : Nat) : Int) by omega, BitVec.ofInt_natCast, BitVec.toNat_ofNat]; omega
  have e2 : (BitVec.ofInt 64 (b : Int)).toNat = b := by rw [BitVec.ofInt_natCast, BitVec.toNat_ofNat]; omega
  show IntKind.u64.wrap ((BitVec.ofInt 64 ((m : Int) * 256) ||| BitVec.ofInt 64 (b : Int)).toNat : Int) = _
  rw [BitVec.toNat_or, e1, e2]
  have e3 : m * 256 ||| b = m * 256 + b := by
    have := Nat.two_pow_add_eq_or_of_lt (i := 8) (b := b) (by omega) m
    rw [show 2 ^ 8 * m = m * 256 by omega] at this
    exact this.symm
  rw [e3, u64 (by omega) (by omega)]
theorem val_take_succ (l : List UInt8) (i : Nat) (h : i < l.length) : val (l.take (i + 1)) = val (l.take i) * 256 + (l[i]).toNat := by
  rw [List.take_succ_eq_append_getElem h, val_snoc]
theorem val_take_lt (l : List UInt8) (i : Nat) (h7 : i ≤ 7) : val (l.take i) < 72057594037927936 := by
  refine Nat.lt_of_lt_of_le (val_lt _) (Nat.le_trans (Nat.pow_le_pow_right (by omega) (?_ : _ ≤ 7)) (by decide))
  rw [List.length_take]; omega
theorem take_loop (t : ByteArray) (ht : t.data.toList.length ≤ 8) : ∀ (d i : Nat), i + d = t.data.toList.length →
    Ev (fun k => field_Take.l0 k t (t.data.toList.length : Int) (val (t.data.toList.take i) : Int) (i : Int)) ((val t.data.toList : Int), 0)
  | 0, i, h => by
    refine Ev.step (fun k => by rw [field_Take.l0, if_neg (by omega)]) ?_
    rw [List.take_of_length_le (by omega)]
    exact Ev.now _
  | d + 1, i, h => by
    have hi : i < t.data.toList.length := by omega
    have hb := (t.data.toList[i]).toNat_lt
    refine Ev.step (fun k => by rw [field_Take.l0, if_pos (by omega), bt_nat t i hi, or_byte _ _ (val_take_lt _ _ (by omega)) (by omega), ← val_take_succ _ _ hi]) ?_
    exact take_loop t ht d (i + 1) (by omega)
theorem extract_data (s : ByteArray) (a b : Nat) : (s.extract a b).data.toList = (s.data.toList.drop a).take (b - a) := by
  rw [ByteArray.data_extract, Array.toList_extract, List.extract_eq_take_drop]
theorem size_data (s : ByteArray) : s.data.toList.length = s.size := data_length s
theorem take_ev (s : ByteArray) (i sz : Nat) (h1 : 1 ≤ sz) (h8 : sz ≤ 8) (hs : s.size ≤ 1099511627776) : Ev (fun k => field_Take.f k s (i : Int) (sz : Int)) (tkR (takeN s.data.toList i sz)) := by
  have hl := size_data s
  unfold takeN
  by_cases c : i + sz ≤ s.data.toList.length
  · rw [if_pos c]
    refine Ev.congr (fun k => by rw [field_Take.f, if_neg (by omega), if_neg (by omega), if_neg (by omega), if_neg (by omega), if_neg (by omega), if_pos (by omega)]) ?_
    have e1 : (i : Int).toNat = i := rfl
    have e2 : ((i : Int) + (sz : Int)).toNat = i + sz := by omega
    rw [e1, e2]
    have hd : (s.extract i (i + sz)).data.toList = (s.data.toList.drop i).take sz := by rw [extract_data]; congr 1; omega
    have hln : (s.extract i (i + sz)).data.toList.length = sz := by rw [hd, List.length_take, List.length_drop]; omega
    have h := take_loop (s.extract i (i + sz)) (by omega) sz 0 (by omega)
    rw [hln, hd] at h
    exact h
  · rw [if_neg c]
    by_cases c2 : (i : Int) > (s.size : Int)
    · exact Ev.congr (fun k => by rw [field_Take.f, if_neg (by omega), if_neg (by omega), if_neg (by omega), if_pos (by omega)]; rfl) (Ev.now _)
    · exact Ev.congr (fun k => by rw [field_Take.f, if_neg (by omega), if_neg (by omega), if_neg (by omega), if_neg (by omega), if_pos (by omega)]; rfl) (Ev.now _)
theorem rtake_loop (s : ByteArray) (i sz : Nat) (h8 : sz ≤ 8) (hc : i + sz ≤ s.data.toList.length) (hs : s.size ≤ 1099511627776) : ∀ (d j : Nat), j + d = sz →
    Ev (fun k => rollbookref01_Take.l0 k s (i : Int) (sz : Int) (val ((s.data.toList.drop i).take j) : Int) (j : Int)) ((val ((s.data.toList.drop i).take sz) : Int), 0)
  | 0, j, h => by
    obtain rfl : j = sz := by omega
    exact Ev.step (fun k => by rw [rollbookref01_Take.l0, if_neg (by omega)]) (Ev.now _)
  | d + 1, j, h => by
    have hl := size_data s
    have hi : i + j < s.data.toList.length := by omega
    have hi2 : j < (s.data.toList.drop i).length := by rw [List.length_drop]; omega
    have hb := (s.data.toList[i + j]).toNat_lt
    have e1 : wrap64 ((i : Int) + (j : Int)) = ((i + j : Nat) : Int) := by rw [w64 (by omega) (by omega)]; omega
    have e2 : wrap64 ((j : Int) + 1) = ((j + 1 : Nat) : Int) := by rw [w64 (by omega) (by omega)]; omega
    have hv := val_take_lt (s.data.toList.drop i) j (by omega)
    have e3 : IntKind.u64.wrap (IntKind.u64.wrap ((val ((s.data.toList.drop i).take j) : Int) * 256) + IntKind.u64.wrap (bt s ((i + j : Nat) : Int))) = (val ((s.data.toList.drop i).take (j + 1)) : Int) := by
      rw [bt_nat s (i + j) hi, u64 (x := ((s.data.toList[i + j]).toNat : Int)) (by omega) (by omega), u64 (x := (val ((s.data.toList.drop i).take j) : Int) * 256) (by omega) (by omega), u64 (by omega) (by omega), val_take_succ _ _ hi2]
      rw [List.getElem_drop]
      omega
    refine Ev.step (fun k => by rw [rollbookref01_Take.l0, if_pos (by omega), e1, if_pos (by omega), if_pos (by omega), e3, e2]) ?_
    exact rtake_loop s i sz h8 hc hs d (j + 1) (by omega)
theorem rtake_ev (s : ByteArray) (i sz : Nat) (h1 : 1 ≤ sz) (h8 : sz ≤ 8) (hs : s.size ≤ 1099511627776) (hi : i ≤ 1099511627776) : Ev (fun k => rollbookref01_Take.f k s (i : Int) (sz : Int)) (tkR (takeN s.data.toList i sz)) := by
  have hl := size_data s
  have e : decide ((i : Int) < 0) = false := decide_eq_false (by omega)
  have e2 : wrap64 ((s.size : Int) - (sz : Int)) = (s.size : Int) - (sz : Int) := w64 (by omega) (by omega)
  refine Ev.congr (fun k => by rw [rollbookref01_Take.f, if_neg (by omega), if_neg (by omega), e]) ?_
  unfold takeN
  by_cases c : i + sz ≤ s.data.toList.length
  · rw [if_pos c]
    refine Ev.step (fun k => by rw [rollbookref01_Take.j0, if_neg (by decide), e2, if_neg (by omega)]) ?_
    exact rtake_loop s i sz h8 c hs sz 0 (by omega)
  · rw [if_neg c]
    exact Ev.step (fun k => by rw [rollbookref01_Take.j0, if_neg (by decide), e2, if_pos (by omega)]; rfl) (Ev.now _)
end Go.Proofs.Ytjbkkmgkckopdaa.Pure
