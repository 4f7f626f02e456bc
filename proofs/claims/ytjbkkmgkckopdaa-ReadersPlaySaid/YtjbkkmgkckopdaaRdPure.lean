/- The readers, plainly: the program's table of four slots and the reference's four numbers answer alike. -/
import Derived.Test.YtjbkkmgkckopdaaTab2
namespace Go.Proofs.Ytjbkkmgkckopdaa.Rd
set_option linter.unusedVariables false
set_option linter.unusedSimpArgs false
/-- The reference's four numbers. -/
structure R where
  a : Int
  b : Int
  c : Int
  d : Int
def R.free : R := ⟨-1, -1, -1, -1⟩
def R.enter (r : R) (x : Int) : R × Int × Int :=
  if x < 0 then (r, 0, 1) else if 1099511627776 < x then (r, 0, 1)
  else if r.a < 0 then (⟨x, r.b, r.c, r.d⟩, 0, 0)
  else if r.b < 0 then (⟨r.a, x, r.c, r.d⟩, 1, 0)
  else if r.c < 0 then (⟨r.a, r.b, x, r.d⟩, 2, 0)
  else if r.d < 0 then (⟨r.a, r.b, r.c, x⟩, 3, 0)
  else (r, 0, 9)
def R.at (r : R) (i : Int) : Int := if i = 0 then r.a else if i = 1 then r.b else if i = 2 then r.c else r.d
def R.put (r : R) (i : Int) (x : Int) : R := if i = 0 then { r with a := x } else if i = 1 then { r with b := x } else if i = 2 then { r with c := x } else { r with d := x }
def R.leave (r : R) (i : Int) : R × Int := if i < 0 then (r, 1) else if 3 < i then (r, 1) else if r.at i < 0 then (r, 7) else (r.put i (-1), 0)
def R.reads (r : R) (i : Int) : Int × Bool := if i < 0 then (0, false) else if 3 < i then (0, false) else if r.at i < 0 then (0, false) else (r.at i, true)
def lowR (y n : Int) : Int := if 0 ≤ y then (if y < n then y else n) else n
def R.oldest (r : R) (now : Int) : Int := lowR r.d (lowR r.c (lowR r.b (lowR r.a now)))
def is1 (y x : Int) : Int := if y = x then 1 else 0
def R.times (r : R) (x : Int) : Int := is1 r.a x + is1 r.b x + is1 r.c x + is1 r.d x
/-- What a slot reads, and the reference's number for it. -/
def Like1 (s : Slot) (y : Int) : Prop := (s = (y, true) ∧ 0 ≤ y ∧ y ≤ 1099511627776) ∨ (s = (0, false) ∧ y = -1)
def Like (t : T) (r : R) : Prop := Like1 t.a r.a ∧ Like1 t.b r.b ∧ Like1 t.c r.c ∧ Like1 t.d r.d
def T.free : T := ⟨(0, false), (0, false), (0, false), (0, false)⟩
theorem like_free : Like T.free R.free := ⟨.inr ⟨rfl, rfl⟩, .inr ⟨rfl, rfl⟩, .inr ⟨rfl, rfl⟩, .inr ⟨rfl, rfl⟩⟩
theorem Like1.used {s : Slot} {y : Int} (h : Like1 s y) : (s.2 = false ↔ y < 0) := by
  rcases h with ⟨rfl, h1, _⟩ | ⟨rfl, rfl⟩
  · simp; omega
  · simp
theorem like_new {x : Int} (h0 : ¬ x < 0) (h1 : ¬ 1099511627776 < x) : Like1 (x, true) x := .inl ⟨rfl, by omega, by omega⟩
theorem like_enter {t : T} {r : R} (h : Like t r) (x : Int) : Like (t.enter x).1 (r.enter x).1 ∧ (t.enter x).2 = (r.enter x).2 := by
  obtain ⟨ha, hb, hc, hd⟩ := h
  unfold T.enter R.enter
  by_cases h0 : x < 0
  · rw [if_pos h0, if_pos h0]; exact ⟨⟨ha, hb, hc, hd⟩, rfl⟩
  rw [if_neg h0, if_neg h0]
  by_cases h1 : 1099511627776 < x
  · rw [if_pos h1, if_pos h1]; exact ⟨⟨ha, hb, hc, hd⟩, rfl⟩
  rw [if_neg h1, if_neg h1]
  have hx := like_new h0 h1
  by_cases u : r.a < 0
  · rw [if_pos (ha.used.2 u), if_pos u]; exact ⟨⟨hx, hb, hc, hd⟩, rfl⟩
  rw [if_neg (fun e => u (ha.used.1 e)), if_neg u]
  by_cases u : r.b < 0
  · rw [if_pos (hb.used.2 u), if_pos u]; exact ⟨⟨ha, hx, hc, hd⟩, rfl⟩
  rw [if_neg (fun e => u (hb.used.1 e)), if_neg u]
  by_cases u : r.c < 0
  · rw [if_pos (hc.used.2 u), if_pos u]; exact ⟨⟨ha, hb, hx, hd⟩, rfl⟩
  rw [if_neg (fun e => u (hc.used.1 e)), if_neg u]
  by_cases u : r.d < 0
  · rw [if_pos (hd.used.2 u), if_pos u]; exact ⟨⟨ha, hb, hc, hx⟩, rfl⟩
  rw [if_neg (fun e => u (hd.used.1 e)), if_neg u]
  exact ⟨⟨ha, hb, hc, hd⟩, rfl⟩
theorem like_at {t : T} {r : R} (h : Like t r) (i : Int) : Like1 (t.at i) (r.at i) := by
  obtain ⟨ha, hb, hc, hd⟩ := h
  unfold T.at R.at
  split
  · exact ha
  · split
    · exact hb
    · split
      · exact hc
      · exact hd
theorem like_put {t : T} {r : R} (h : Like t r) (i : Int) {s : Slot} {y : Int} (hs : Like1 s y) : Like (t.put i s) (r.put i y) := by
  obtain ⟨ha, hb, hc, hd⟩ := h
  unfold T.put R.put
  split
  · exact ⟨hs, hb, hc, hd⟩
  · split
    · exact ⟨ha, hs, hc, hd⟩
    · split
      · exact ⟨ha, hb, hs, hd⟩
      · exact ⟨ha, hb, hc, hs⟩
theorem like_leave {t : T} {r : R} (h : Like t r) (i : Int) : Like (t.leave i).1 (r.leave i).1 ∧ (t.leave i).2 = (r.leave i).2 := by
  unfold T.leave R.leave
  by_cases h0 : i < 0
  · rw [if_pos h0, if_pos h0]; exact ⟨h, rfl⟩
  rw [if_neg h0, if_neg h0]
  by_cases h1 : 3 < i
  · rw [if_pos (show 4 ≤ i by omega), if_pos h1]; exact ⟨h, rfl⟩
  rw [if_neg (show ¬ 4 ≤ i by omega), if_neg h1]
  by_cases u : r.at i < 0
  · rw [if_pos ((like_at h i).used.2 u), if_pos u]; exact ⟨h, rfl⟩
  rw [if_neg (fun e => u ((like_at h i).used.1 e)), if_neg u]
  exact ⟨like_put h i (.inr ⟨rfl, rfl⟩), rfl⟩
theorem like_reads {t : T} {r : R} (h : Like t r) (i : Int) : t.reads i = r.reads i := by
  unfold T.reads R.reads
  by_cases h0 : i < 0
  · rw [if_pos h0, if_pos h0]
  rw [if_neg h0, if_neg h0]
  by_cases h1 : 3 < i
  · rw [if_pos (show 4 ≤ i by omega), if_pos h1]
  rw [if_neg (show ¬ 4 ≤ i by omega), if_neg h1]
  rcases like_at h i with ⟨e, h2, _⟩ | ⟨e, h2⟩
  · rw [e, if_neg (by omega)]
  · rw [e, h2, if_pos (by omega)]
def low (s : Slot) (n : Int) : Int := if s.2 = true then (if s.1 < n then s.1 else n) else n
def T.oldest (t : T) (now : Int) : Int := low t.d (low t.c (low t.b (low t.a now)))
theorem like_low {s : Slot} {y : Int} (h : Like1 s y) (n : Int) : low s n = lowR y n := by
  unfold low lowR
  rcases h with ⟨rfl, h1, _⟩ | ⟨rfl, rfl⟩
  · rw [if_pos rfl, if_pos h1]
  · rw [if_neg (by decide), if_neg (by decide)]
theorem like_oldest {t : T} {r : R} (h : Like t r) (n : Int) : t.oldest n = r.oldest n := by
  obtain ⟨ha, hb, hc, hd⟩ := h
  unfold T.oldest R.oldest
  rw [like_low ha, like_low hb, like_low hc, like_low hd]
def T.live (t : T) : List Int := upto t.a t.b t.c t.d 4
theorem like_one {s : Slot} {y : Int} (h : Like1 s y) (x : Int) (hx : 0 ≤ x) : ((one s).count x : Int) = is1 y x := by
  unfold one is1
  rcases h with ⟨rfl, h1, _⟩ | ⟨rfl, rfl⟩
  · by_cases e : y = x
    · subst e; simp
    · simp [e]
  · have : ¬ (-1 : Int) = x := by omega
    simp [this]
theorem like_times {t : T} {r : R} (h : Like t r) (x : Int) (hx : 0 ≤ x) : (t.live.count x : Int) = r.times x := by
  obtain ⟨ha, hb, hc, hd⟩ := h
  unfold T.live upto R.times
  simp only [List.count_append]
  have h1 := like_one ha x hx
  have h2 := like_one hb x hx
  have h3 := like_one hc x hx
  have h4 := like_one hd x hx
  omega
theorem like_len {s : Slot} {y : Int} (h : Like1 s y) : ((one s).length : Int) = 1 - is1 y (-1) := by
  unfold one is1
  rcases h with ⟨rfl, h1, _⟩ | ⟨rfl, rfl⟩
  · have : ¬ y = -1 := by omega
    simp [this]
  · simp
theorem like_count {t : T} {r : R} (h : Like t r) : (t.live.length : Int) = 4 - r.times (-1) := by
  obtain ⟨ha, hb, hc, hd⟩ := h
  unfold T.live upto R.times
  simp only [List.length_append]
  have h1 := like_len ha
  have h2 := like_len hb
  have h3 := like_len hc
  have h4 := like_len hd
  omega
theorem one_pos {s : Slot} {y : Int} (h : Like1 s y) (x : Int) (hx : x ∈ one s) : 0 ≤ x := by
  unfold one at hx
  rcases h with ⟨rfl, h1, _⟩ | ⟨rfl, rfl⟩
  · simp at hx; omega
  · simp at hx
theorem like_pos {t : T} {r : R} (h : Like t r) (x : Int) (hx : x ∈ t.live) : 0 ≤ x := by
  obtain ⟨ha, hb, hc, hd⟩ := h
  unfold T.live upto at hx
  simp only [List.mem_append] at hx
  rcases hx with ((hx | hx) | hx) | hx
  · exact one_pos ha x hx
  · exact one_pos hb x hx
  · exact one_pos hc x hx
  · exact one_pos hd x hx
theorem low_spec (s : Slot) (n : Int) : low s n ≤ n ∧ (∀ x ∈ one s, low s n ≤ x) ∧ (low s n = n ∨ low s n ∈ one s) := by
  obtain ⟨v, u⟩ := s
  cases u with
  | false => simp [low, one]
  | true =>
    by_cases h : v < n
    · simp [low, one, h]; omega
    · simp [low, one, h]; omega
theorem oldest_spec (t : T) (n : Int) : t.oldest n ≤ n ∧ (∀ x ∈ t.live, t.oldest n ≤ x) ∧ (t.oldest n = n ∨ t.oldest n ∈ t.live) := by
  unfold T.oldest T.live upto
  obtain ⟨a1, a2, a3⟩ := low_spec t.a n
  obtain ⟨b1, b2, b3⟩ := low_spec t.b (low t.a n)
  obtain ⟨c1, c2, c3⟩ := low_spec t.c (low t.b (low t.a n))
  obtain ⟨d1, d2, d3⟩ := low_spec t.d (low t.c (low t.b (low t.a n)))
  refine ⟨by omega, fun x hx => ?_, ?_⟩
  · simp only [List.mem_append] at hx
    rcases hx with ((hx | hx) | hx) | hx
    · have := a2 x hx; omega
    · have := b2 x hx; omega
    · have := c2 x hx; omega
    · exact d2 x hx
  · simp only [List.mem_append]
    rcases d3 with e | e
    · rw [e]
      rcases c3 with e | e
      · rw [e]
        rcases b3 with e | e
        · rw [e]
          rcases a3 with e | e
          · exact .inl e
          · exact .inr (.inl (.inl (.inl e)))
        · exact .inr (.inl (.inl (.inr e)))
      · exact .inr (.inl (.inr e))
    · exact .inr (.inr e)
theorem sorted_head {ys : List Int} {n : Nat} (hs : SortedTo ys n) (hn : ys.length = n) (h0 : 0 < ys.length) (x : Int) (hx : x ∈ ys) : ys.getD 0 0 ≤ x := by
  obtain ⟨i, hi, rfl⟩ := List.getElem_of_mem hx
  cases i with
  | zero => simp [List.getD_eq_getElem?_getD, List.getElem?_eq_getElem hi]
  | succ i =>
    have := hs 0 (i + 1) (by omega) (by omega)
    simpa [List.getD_eq_getElem?_getD, List.getElem?_eq_getElem hi] using this
theorem oldest_of_sorted {t : T} {ys : List Int} (hp : ys.Perm t.live) (hs : SortedTo ys ys.length) (n : Int) (h0 : 0 < ys.length) : min n (ys.getD 0 0) = t.oldest n := by
  obtain ⟨h1, h2, h3⟩ := oldest_spec t n
  have hm : ys.getD 0 0 ∈ t.live := hp.mem_iff.1 (by rw [List.getD_eq_getElem?_getD, List.getElem?_eq_getElem h0]; exact List.getElem_mem h0)
  have h4 := h2 _ hm
  rcases h3 with e | e
  · omega
  · have := sorted_head hs rfl h0 _ (hp.mem_iff.2 e)
    omega
theorem oldest_of_nil {t : T} (h : t.live = []) (n : Int) : t.oldest n = n := by
  obtain ⟨h1, h2, h3⟩ := oldest_spec t n
  rcases h3 with e | e
  · exact e
  · rw [h] at e; cases e
/-- What the guard's law says of any table. -/
theorem guard_full {t : T} {x : Int} (h : (t.enter x).2.2 ≠ 0) : (t.enter x).1 = t := by
  unfold T.enter at h ⊢
  (repeat' split) <;> simp_all
theorem guard_law {t : T} {x : Int} (now : Int) (h : (t.enter x).2.2 = 0) :
    (t.enter x).1.oldest now = min (t.oldest now) x ∧ ((t.enter x).1.leave (t.enter x).2.1).2 = 0 ∧ ((t.enter x).1.leave (t.enter x).2.1).1.oldest now = t.oldest now ∧
    (((t.enter x).1.leave (t.enter x).2.1).1.leave (t.enter x).2.1).2 = 7 := by
  obtain ⟨⟨a0, a1⟩, ⟨b0, b1⟩, ⟨c0, c1⟩, ⟨d0, d1⟩⟩ := t
  unfold T.enter at h ⊢
  by_cases h0 : x < 0
  · rw [if_pos h0] at h; exact absurd (show (1 : Int) = 0 from h) (by decide)
  rw [if_neg h0] at h ⊢
  by_cases h1 : 1099511627776 < x
  · rw [if_pos h1] at h; exact absurd (show (1 : Int) = 0 from h) (by decide)
  rw [if_neg h1] at h ⊢
  cases a1 with
  | false =>
    simp only [if_true, T.leave, T.at, T.put, T.oldest, low]
    refine ⟨?_, by simp, by simp, by simp⟩
    simp only [if_true, Bool.false_eq_true, if_false]
    cases b1 <;> cases c1 <;> cases d1 <;> simp only [if_true, Bool.false_eq_true, if_false] <;> (repeat' split) <;> omega
  | true =>
    cases b1 with
    | false =>
      simp only [if_true, T.leave, T.at, T.put, T.oldest, low, Bool.true_eq_false, if_false]
      refine ⟨?_, by simp, by simp, by simp⟩
      simp only [if_true, Bool.false_eq_true, if_false]
      cases c1 <;> cases d1 <;> simp only [if_true, Bool.false_eq_true, if_false] <;> (repeat' split) <;> omega
    | true =>
      cases c1 with
      | false =>
        simp only [if_true, T.leave, T.at, T.put, T.oldest, low, Bool.true_eq_false, if_false]
        refine ⟨?_, by simp, by simp, by simp⟩
        simp only [if_true, Bool.false_eq_true, if_false]
        cases d1 <;> simp only [if_true, Bool.false_eq_true, if_false] <;> (repeat' split) <;> omega
      | true =>
        cases d1 with
        | false =>
          simp only [if_true, T.leave, T.at, T.put, T.oldest, low, Bool.true_eq_false, if_false]
          refine ⟨?_, by simp, by simp, by simp⟩
          simp only [if_true, Bool.false_eq_true, if_false]
          (repeat' split) <;> omega
        | true => simp at h
end Go.Proofs.Ytjbkkmgkckopdaa.Rd
