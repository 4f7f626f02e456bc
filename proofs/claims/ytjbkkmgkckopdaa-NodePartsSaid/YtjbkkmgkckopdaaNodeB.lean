import Derived.Test.YtjbkkmgkckopdaaNodeA
namespace Go.Proofs.Ytjbkkmgkckopdaa.Pure
open Go.RowKit Go.Proofs.Ytjbkkmgkckopdaa.PN Go.Proofs.YtjbkkmgkckopdaaW.PrintWords Go.Proofs.YtjbkkmgkckopdaaW.PrintLast Go.Proofs.YtjbkkmgkckopdaaW.PrintMore
set_option linter.unusedVariables false
set_option linter.unusedSimpArgs false

/-! ### wraps, one by one (no such fact may lie in omega's sight) -/
theorem wc (n : Nat) (h : n ≤ 4611686018427387904) : wrap64 (n : Int) = (n : Int) := w64 (by omega) (by omega)
theorem wadd (a b : Nat) (h : a + b ≤ 4611686018427387904) : wrap64 ((a : Int) + (b : Int)) = ((a + b : Nat) : Int) := by rw [w64 (by omega) (by omega)]; omega
theorem w1 (n : Nat) (h : n ≤ 4611686018427387904 - 1) : wrap64 ((n : Int) + 1) = ((n + 1 : Nat) : Int) := wadd n 1 (by omega)
theorem w2 (n : Nat) (h : n ≤ 4611686018427387904 - 2) : wrap64 ((n : Int) + 2) = ((n + 2 : Nat) : Int) := wadd n 2 (by omega)
theorem w3 (n : Nat) (h : n ≤ 4611686018427387904 - 3) : wrap64 ((n : Int) + 3) = ((n + 3 : Nat) : Int) := wadd n 3 (by omega)
theorem w4 (n : Nat) (h : n ≤ 4611686018427387904 - 4) : wrap64 ((n : Int) + 4) = ((n + 4 : Nat) : Int) := wadd n 4 (by omega)
theorem w5 (n : Nat) (h : n ≤ 4611686018427387904 - 5) : wrap64 ((n : Int) + 5) = ((n + 5 : Nat) : Int) := wadd n 5 (by omega)
theorem w9 (n : Nat) (h : n ≤ 4611686018427387904 - 9) : wrap64 ((n : Int) + 9) = ((n + 9 : Nat) : Int) := wadd n 9 (by omega)

/-! ### TakeText -/
def ttN (l : List UInt8) (i : Nat) : Option (List UInt8 × Nat) :=
  (takeN l i 2).bind fun n => if i + 2 + n ≤ l.length then some ((l.drop (i + 2)).take n, i + 2 + n) else none
def ttR : Option (List UInt8 × Nat) → ByteArray × Int × Int
  | some (t, e) => (ba t, (e : Int), 0)
  | none => (⟨#[]⟩, 0, 3)
theorem takeN_lt {l : List UInt8} {i n : Nat} (h : takeN l i 2 = some n) : i + 2 ≤ l.length ∧ n < 65536 := by
  unfold takeN at h
  by_cases c : i + 2 ≤ l.length
  · rw [if_pos c] at h
    obtain rfl := Option.some.inj h
    refine ⟨c, Nat.lt_of_lt_of_le (val_lt _) (Nat.le_trans (Nat.pow_le_pow_right (by omega) (?_ : _ ≤ 2)) (by decide))⟩
    rw [List.length_take]; omega
  · rw [if_neg c] at h; exact absurd h (by simp)
theorem extract_ba (s : ByteArray) (a b : Nat) : s.extract a b = ba ((s.data.toList.drop a).take (b - a)) := by
  rw [← extract_data, ba_of]
theorem tt_ev (s : ByteArray) (i : Nat) (hs : s.size ≤ 1099511627776) (hi : i ≤ 1099511627776) : Ev (fun k => field_TakeText.f k s (i : Int)) (ttR (ttN s.data.toList i)) := by
  have hl := size_data s
  have ht : Ev (fun k => field_Take.f k s (i : Int) 2) (tkR (takeN s.data.toList i 2)) := take_ev s i 2 (by omega) (by omega) hs
  unfold ttN
  cases h : takeN s.data.toList i 2 with
  | none =>
    rw [h] at ht
    refine Ev.congr (fun k => by rw [field_TakeText.f]) (Ev.bind ht ?_)
    exact Ev.congr (fun k => by rw [if_neg (show ¬ (tkR none).2 = 0 by decide)]; rfl) (Ev.now _)
  | some n =>
    rw [h] at ht
    obtain ⟨h2, hn⟩ := takeN_lt h
    refine Ev.congr (fun k => by rw [field_TakeText.f]) (Ev.bind ht ?_)
    have e1 : wrap64 ((s.size : Int) - (i : Int)) = (s.size : Int) - (i : Int) := w64 (by omega) (by omega)
    have e2 : wrap64 ((s.size : Int) - (i : Int) - 2) = (s.size : Int) - (i : Int) - 2 := w64 (by omega) (by omega)
    have e3 : IntKind.u64.wrap ((s.size : Int) - (i : Int) - 2) = (s.size : Int) - (i : Int) - 2 := u64 (by omega) (by omega)
    have e4 : wrap64 ((i : Int) + 2) = ((i + 2 : Nat) : Int) := by rw [w64 (by omega) (by omega)]; omega
    have e5 : wrap64 (n : Int) = (n : Int) := w64 (by omega) (by omega)
    have e6 : wrap64 (((i + 2 : Nat) : Int) + (n : Int)) = ((i + 2 + n : Nat) : Int) := by rw [w64 (by omega) (by omega)]; omega
    simp only [tkR, e1, e2, e3, e4, e5, e6, Option.bind_some]
    by_cases c : i + 2 + n ≤ s.data.toList.length
    · rw [if_pos c]
      refine Ev.congr (fun k => by rw [if_pos trivial, if_neg (by omega), if_pos (by omega), if_pos (by omega), if_pos (by omega)]) ?_
      have e7 : (((i + 2 : Nat) : Int)).toNat = i + 2 := rfl
      have e8 : (((i + 2 + n : Nat) : Int)).toNat = i + 2 + n := rfl
      rw [e7, e8, extract_ba, show i + 2 + n - (i + 2) = n by omega]
      exact Ev.now _
    · rw [if_neg c]
      exact Ev.congr (fun k => by rw [if_pos trivial, if_pos (by omega)]; rfl) (Ev.now _)
def ints (l : List UInt8) : List Int := l.map fun b => (b.toNat : Int)
theorem str_ints (l : List UInt8) : strOfNums (ints l) = ba l := by
  unfold strOfNums ints ba
  congr 1
  simp [Function.comp_def]
theorem ints_length (l : List UInt8) : (ints l).length = l.length := by simp [ints]
theorem short (xs : List Int) (h : xs.length ≤ 100000) : xs.length < 140737488355328 := by omega
theorem rtt_loop (s : ByteArray) (i n : Nat) (hs : s.size ≤ 1099511627776) (hi : i ≤ 1099511627776) (hn : n < 65536) (hc : i + 2 + n ≤ s.data.toList.length) : ∀ (d j : Nat), j + d = n →
    Ev (fun k => rollbookref01_TakeText.l0 k s (i : Int) (n : Int) (ints ((s.data.toList.drop (i + 2)).take j)) (j : Int)) (ba ((s.data.toList.drop (i + 2)).take n), ((i + 2 + n : Nat) : Int), 0) := by
  have hl := size_data s
  intro d
  induction d with
  | zero =>
    intro j h
    obtain rfl : j = n := by omega
    exact Ev.step (fun k => by rw [rollbookref01_TakeText.l0, wc j (by omega), if_neg (by omega), w2 i (by omega), wadd (i + 2) j (by omega), str_ints]) (Ev.now _)
  | succ d ih =>
    intro j h
    have hj : i + 2 + j < s.data.toList.length := by omega
    have hj2 : j < (s.data.toList.drop (i + 2)).length := by rw [List.length_drop]; omega
    have hlen := short (ints ((s.data.toList.drop (i + 2)).take j)) (by rw [ints_length, List.length_take]; omega)
    have e9 : ints ((s.data.toList.drop (i + 2)).take j) ++ [bt s ((i + 2 + j : Nat) : Int)] = ints ((s.data.toList.drop (i + 2)).take (j + 1)) := by
      rw [List.take_succ_eq_append_getElem hj2, bt_nat s _ hj]
      simp [ints]
    refine Ev.step (fun k => by rw [rollbookref01_TakeText.l0, wc n (by omega), if_pos (by omega), w2 i (by omega), wadd (i + 2) j (by omega), if_neg (by omega), if_pos (by omega), if_pos (by omega), if_pos hlen, e9, w1 j (by omega)]) ?_
    exact ih (j + 1) (by omega)
theorem rtt_fail (s : ByteArray) (i n : Nat) (hs : s.size ≤ 1099511627776) (hi : i ≤ 1099511627776) (hn : n < 65536) (h2 : i + 2 ≤ s.data.toList.length) (hc : ¬ i + 2 + n ≤ s.data.toList.length) : ∀ (d j : Nat), i + 2 + j + d = s.data.toList.length → ∀ xs : List Int, xs.length = j →
    Ev (fun k => rollbookref01_TakeText.l0 k s (i : Int) (n : Int) xs (j : Int)) ((⟨#[]⟩ : ByteArray), 0, 3) := by
  have hl := size_data s
  intro d
  induction d with
  | zero =>
    intro j h xs hx
    exact Ev.step (fun k => by rw [rollbookref01_TakeText.l0, wc n (by omega), if_pos (by omega), w2 i (by omega), wadd (i + 2) j (by omega), if_pos (by omega)]) (Ev.now _)
  | succ d ih =>
    intro j h xs hx
    have hlen := short xs (by omega)
    refine Ev.step (fun k => by rw [rollbookref01_TakeText.l0, wc n (by omega), if_pos (by omega), w2 i (by omega), wadd (i + 2) j (by omega), if_neg (by omega), if_pos (by omega), if_pos (by omega), if_pos hlen, w1 j (by omega)]) ?_
    exact ih (j + 1) (by omega) _ (by rw [List.length_append, List.length_singleton, hx])
theorem rtt_ev (s : ByteArray) (i : Nat) (hs : s.size ≤ 1099511627776) (hi : i ≤ 1099511627776) : Ev (fun k => rollbookref01_TakeText.f k s (i : Int)) (ttR (ttN s.data.toList i)) := by
  have ht : Ev (fun k => rollbookref01_Take.f k s (i : Int) 2) (tkR (takeN s.data.toList i 2)) := rtake_ev s i 2 (by omega) (by omega) hs hi
  unfold ttN
  cases h : takeN s.data.toList i 2 with
  | none =>
    rw [h] at ht
    refine Ev.congr (fun k => by rw [rollbookref01_TakeText.f]) (Ev.bind ht ?_)
    exact Ev.congr (fun k => by rw [if_neg (show ¬ (tkR none).2 = 0 by decide)]; rfl) (Ev.now _)
  | some n =>
    rw [h] at ht
    obtain ⟨h2, hn⟩ := takeN_lt h
    refine Ev.congr (fun k => by rw [rollbookref01_TakeText.f]) (Ev.bind ht ?_)
    refine Ev.congr (fun k => by rw [if_pos (show (tkR (some n)).2 = 0 by rfl)]) ?_
    by_cases c : i + 2 + n ≤ s.data.toList.length
    · simp only [Option.bind_some, if_pos c]
      have := rtt_loop s i n hs hi hn c n 0 (by omega)
      rw [List.take_zero] at this
      exact this
    · simp only [Option.bind_some, if_neg c]
      exact rtt_fail s i n hs hi hn h2 c (s.data.toList.length - (i + 2)) 0 (by omega) [] rfl

/-! ### Less -/
def cmpI : List UInt8 → List UInt8 → Int
  | [], [] => 0
  | [], _ :: _ => -1
  | _ :: _, [] => 1
  | a :: x, b :: y => if a < b then -1 else if b < a then 1 else cmpI x y
theorem cmpI_lt : ∀ (a b : List UInt8), cmpI a b < 0 ↔ a < b
  | [], [] => by simp [cmpI]
  | [], _ :: _ => by simp [cmpI]
  | _ :: _, [] => by simp [cmpI]
  | a :: x, b :: y => by
    rw [cmpI, List.cons_lt_cons_iff]
    by_cases h : a < b
    · simp [h]
    · by_cases h2 : b < a
      · have hne : a ≠ b := by rintro rfl; exact h h2
        simp [h, h2, hne]
      · have : a = b := by
          rcases Std.lt_trichotomy a b with hh | hh | hh
          · exact absurd hh h
          · exact hh
          · exact absurd hh h2
        simp [h, h2, this, cmpI_lt x y]
theorem u8_lt (a b : UInt8) : ((a.toNat : Int) < (b.toNat : Int)) ↔ a < b := by rw [UInt8.lt_iff_toNat_lt]; omega
theorem less_loop (a b : ByteArray) (ha : a.size ≤ 1099511627776) (hb : b.size ≤ 1099511627776) : ∀ (d i : Nat), i + d = a.data.toList.length → i ≤ b.data.toList.length →
    Ev (fun k => rollbookref01_Less.l0 k a b (i : Int)) (cmpI (a.data.toList.drop i) (b.data.toList.drop i)) := by
  have hla := size_data a
  have hlb := size_data b
  intro d
  induction d with
  | zero =>
    intro i h hib
    refine Ev.step (fun k => by rw [rollbookref01_Less.l0, if_neg (by omega)]) ?_
    rw [List.drop_of_length_le (l := a.data.toList) (by omega)]
    by_cases c2 : i < b.data.toList.length
    · rw [List.drop_eq_getElem_cons c2, cmpI]
      exact Ev.step (fun k => by rw [rollbookref01_Less.j1, if_neg (by decide), if_pos (by omega)]) (Ev.now _)
    · rw [List.drop_of_length_le (l := b.data.toList) (by omega), cmpI]
      exact Ev.step (fun k => by rw [rollbookref01_Less.j1, if_neg (by decide), if_neg (by omega), if_neg (by omega)]) (Ev.now _)
  | succ d ih =>
    intro i h hib
    have c1 : i < a.data.toList.length := by omega
    by_cases c2 : i < b.data.toList.length
    · have e : decide ((i : Int) < (b.size : Int)) = true := decide_eq_true (by omega)
      have e8 : wrap64 ((i : Int) + 1) = ((i + 1 : Nat) : Int) := by rw [w64 (by omega) (by omega)]; omega
      refine Ev.step (fun k => by rw [rollbookref01_Less.l0, if_pos (by omega), e]) ?_
      rw [List.drop_eq_getElem_cons c1, List.drop_eq_getElem_cons c2, cmpI]
      have b1 := bt_nat a i c1
      have b2 := bt_nat b i c2
      by_cases h1 : a.data.toList[i] < b.data.toList[i]
      · rw [if_pos h1]
        exact Ev.step (fun k => by rw [rollbookref01_Less.j1, if_pos rfl, if_pos (by omega), if_pos (by omega), if_pos (by omega), b1, b2, if_pos ((u8_lt _ _).2 h1)]) (Ev.now _)
      · rw [if_neg h1]
        by_cases h2 : b.data.toList[i] < a.data.toList[i]
        · rw [if_pos h2]
          exact Ev.step (fun k => by rw [rollbookref01_Less.j1, if_pos rfl, if_pos (by omega), if_pos (by omega), if_pos (by omega), b1, b2, if_neg (fun hh => h1 ((u8_lt _ _).1 hh)), if_pos ((u8_lt _ _).2 h2)]) (Ev.now _)
        · rw [if_neg h2]
          refine Ev.step (fun k => by rw [rollbookref01_Less.j1, if_pos rfl, if_pos (by omega), if_pos (by omega), if_pos (by omega), b1, b2, if_neg (fun hh => h1 ((u8_lt _ _).1 hh)), if_neg (fun hh => h2 ((u8_lt _ _).1 hh)), e8]) ?_
          exact ih (i + 1) (by omega) (by omega)
    · have e : decide ((i : Int) < (b.size : Int)) = false := decide_eq_false (by omega)
      refine Ev.step (fun k => by rw [rollbookref01_Less.l0, if_pos (by omega), e]) ?_
      rw [List.drop_eq_getElem_cons c1, List.drop_of_length_le (l := b.data.toList) (by omega), cmpI]
      exact Ev.step (fun k => by rw [rollbookref01_Less.j1, if_neg (by decide), if_neg (by omega), if_pos (by omega)]) (Ev.now _)
theorem less_ev (a b : ByteArray) (ha : a.size ≤ 1099511627776) (hb : b.size ≤ 1099511627776) : Ev (fun k => rollbookref01_Less.f k a b) (cmpI a.data.toList b.data.toList) :=
  less_loop a b ha hb a.data.toList.length 0 (by omega) (by omega)
end Go.Proofs.Ytjbkkmgkckopdaa.Pure
