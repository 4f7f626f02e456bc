import Derived.Test.YtjbkkmgkckopdaaNodeB
namespace Go.Proofs.Ytjbkkmgkckopdaa.Pure
open Go.RowKit Go.Proofs.Ytjbkkmgkckopdaa.PN Go.Proofs.YtjbkkmgkckopdaaW.PrintWords Go.Proofs.YtjbkkmgkckopdaaW.PrintLast Go.Proofs.YtjbkkmgkckopdaaW.PrintMore
set_option linter.unusedVariables false
set_option linter.unusedSimpArgs false

/-! ### which cells may be -/
noncomputable def tb (p : Prop) : Bool := @decide p (Classical.propDecidable p)
theorem tb_iff {p : Prop} : tb p = true ↔ p := @decide_eq_true_iff p (Classical.propDecidable p)
theorem tb_yes {p : Prop} (h : p) : tb p = true := tb_iff.2 h
theorem tb_no {p : Prop} (h : ¬ p) : tb p = false := Bool.eq_false_iff.2 (fun hh => h (tb_iff.1 hh))
theorem tb_eq {p : Prop} {b : Bool} (h : b = true ↔ p) : tb p = b := by rw [Bool.eq_iff_iff, tb_iff]; exact h.symm
def valOk (c : S35) : Prop := (c.f2 = 0 ∧ c.f3 = 0 ∧ c.f1.size ≤ 96) ∨ (c.f1.size = 0 ∧ 1 ≤ c.f2 ∧ c.f2 ≤ 511 ∧ 97 ≤ c.f3 ∧ c.f3 ≤ 4000)
def leafOk (c : S35) : Prop := 1 ≤ c.f0.size ∧ c.f0.size ≤ 120 ∧ c.f4 = 0 ∧ valOk c
def branchOk (c : S35) : Prop := c.f0.size ≤ 120 ∧ 1 ≤ c.f4 ∧ c.f4 ≤ 511 ∧ c.f1.size = 0 ∧ c.f2 = 0 ∧ c.f3 = 0
def cellOk (leaf : Bool) (c : S35) : Prop := if leaf = true then leafOk c else branchOk c
theorem empty_iff (s : ByteArray) : s.toList = ([] : List UInt8) ↔ s.size = 0 := by
  rw [ByteArray.toList_eq, ← List.length_eq_zero_iff, size_data]
theorem branch_f (c : S35) : node_rightBranch.f c.f0 c.f1 c.f2 c.f3 c.f4 = some (tb (branchOk c)) := by
  unfold node_rightBranch.f
  simp only [empty_iff]
  by_cases h1 : (c.f0.size : Int) ≤ 120
  case neg => rw [if_neg h1, tb_no (by unfold branchOk; omega)]
  rw [if_pos h1]
  by_cases h2 : c.f4 ≥ 1
  case neg => rw [if_neg h2, tb_no (by unfold branchOk; omega)]
  rw [if_pos h2]
  by_cases h3 : c.f4 < 512
  case neg => rw [if_neg h3, tb_no (by unfold branchOk; omega)]
  rw [if_pos h3]
  by_cases h4 : c.f1.size = 0
  case neg => rw [if_neg h4, tb_no (by unfold branchOk; omega)]
  rw [if_pos h4]
  by_cases h5 : c.f2 = 0
  case neg => rw [if_neg h5, tb_no (by unfold branchOk; omega)]
  rw [if_pos h5, tb_eq (p := branchOk c) (b := c.f3 == 0)]
  rw [beq_iff_eq]
  unfold branchOk
  omega
theorem leaf_j (c : S35) (x : Bool) : Ev (fun k => node_rightLeaf.j0 k x c.f0 c.f1 c.f2 c.f3 c.f4) (!x && tb (valOk c)) := by
  refine Ev.step (fun k => by rw [node_rightLeaf.j0]) ?_
  cases x with
  | true => exact Ev.congr (fun k => by rw [if_pos rfl]; rfl) (Ev.now _)
  | false =>
    refine Ev.congr (fun k => by rw [if_neg (by decide)]) ?_
    simp only [empty_iff, Bool.not_false, Bool.true_and]
    by_cases h1 : c.f2 = 0
    · rw [if_pos h1]
      by_cases h2 : c.f3 = 0
      · rw [if_pos h2, tb_eq (p := valOk c) (b := decide ((c.f1.size : Int) ≤ 96)) (by rw [decide_eq_true_iff]; unfold valOk; omega)]; exact Ev.now _
      · rw [if_neg h2, tb_no (by unfold valOk; omega)]; exact Ev.now _
    · rw [if_neg h1]
      by_cases h3 : c.f1.size = 0
      case neg => rw [if_neg h3, tb_no (by unfold valOk; omega)]; exact Ev.now _
      rw [if_pos h3]
      by_cases h4 : c.f2 ≥ 1
      case neg => rw [if_neg h4, tb_no (by unfold valOk; omega)]; exact Ev.now _
      rw [if_pos h4]
      by_cases h5 : c.f2 < 512
      case neg => rw [if_neg h5, tb_no (by unfold valOk; omega)]; exact Ev.now _
      rw [if_pos h5]
      by_cases h6 : c.f3 > 96
      case neg => rw [if_neg h6, tb_no (by unfold valOk; omega)]; exact Ev.now _
      rw [if_pos h6, tb_eq (p := valOk c) (b := decide (c.f3 ≤ 4000)) (by rw [decide_eq_true_iff]; unfold valOk; omega)]; exact Ev.now _
theorem leaf_ev (c : S35) : Ev (fun k => node_rightLeaf.f k c.f0 c.f1 c.f2 c.f3 c.f4) (tb (leafOk c)) := by
  by_cases h1 : c.f0.size = 0
  · refine Ev.congr (fun k => by rw [node_rightLeaf.f, if_pos ((empty_iff _).2 h1)]) ?_
    rw [tb_no (by unfold leafOk; omega)]
    exact leaf_j c true
  · by_cases h2 : (c.f0.size : Int) > 120
    · refine Ev.congr (fun k => by rw [node_rightLeaf.f, if_neg (fun hh => h1 ((empty_iff _).1 hh)), if_pos h2]) ?_
      rw [tb_no (by unfold leafOk; omega)]
      exact leaf_j c true
    · refine Ev.congr (fun k => by rw [node_rightLeaf.f, if_neg (fun hh => h1 ((empty_iff _).1 hh)), if_neg h2]) ?_
      rw [tb_eq (p := leafOk c) (b := !(c.f4 != 0) && tb (valOk c))]
      · exact leaf_j c _
      · simp only [Bool.and_eq_true, Bool.not_eq_true', bne_eq_false_iff_eq, tb_iff]
        exact ⟨fun h => ⟨by omega, by omega, h.1, h.2⟩, fun h => ⟨h.2.2.1, h.2.2.2⟩⟩
theorem rcell_j (c : S35) (x : Bool) : Ev (fun k => rollbookref06_Cell.j0 k x c.f0 c.f1 c.f2 c.f3 c.f4) (!x && tb (valOk c)) := by
  refine Ev.step (fun k => by rw [rollbookref06_Cell.j0]) ?_
  cases x with
  | true => exact Ev.congr (fun k => by rw [if_pos rfl]; rfl) (Ev.now _)
  | false =>
    refine Ev.congr (fun k => by rw [if_neg (by decide)]) ?_
    simp only [empty_iff, Bool.not_false, Bool.true_and]
    have tail (hx : ¬ (c.f2 = 0 ∧ c.f3 = 0)) : Ev (fun _ : Nat => if c.f1.size = 0 then (if c.f2 ≥ 1 then (if c.f2 ≤ 511 then (if c.f3 ≥ 97 then (some (decide (c.f3 ≤ 4000))) else (some false)) else (some false)) else (some false)) else (some false)) (tb (valOk c)) := by
      by_cases h3 : c.f1.size = 0
      case neg => rw [if_neg h3, tb_no (by unfold valOk; omega)]; exact Ev.now _
      rw [if_pos h3]
      by_cases h4 : c.f2 ≥ 1
      case neg => rw [if_neg h4, tb_no (by unfold valOk; omega)]; exact Ev.now _
      rw [if_pos h4]
      by_cases h5 : c.f2 ≤ 511
      case neg => rw [if_neg h5, tb_no (by unfold valOk; omega)]; exact Ev.now _
      rw [if_pos h5]
      by_cases h6 : c.f3 ≥ 97
      case neg => rw [if_neg h6, tb_no (by unfold valOk; omega)]; exact Ev.now _
      rw [if_pos h6, tb_eq (p := valOk c) (b := decide (c.f3 ≤ 4000)) (by rw [decide_eq_true_iff]; unfold valOk; omega)]; exact Ev.now _
    by_cases h1 : c.f2 = 0
    · rw [if_pos h1]
      by_cases h2 : c.f3 = 0
      · rw [if_pos h2, tb_eq (p := valOk c) (b := decide ((c.f1.size : Int) ≤ 96)) (by rw [decide_eq_true_iff]; unfold valOk; omega)]; exact Ev.now _
      · rw [if_neg h2]; exact tail (by omega)
    · rw [if_neg h1]; exact tail (by omega)
theorem rcell_ev (leaf : Bool) (c : S35) : Ev (fun k => rollbookref06_Cell.f k leaf c.f0 c.f1 c.f2 c.f3 c.f4) (tb (cellOk leaf c)) := by
  by_cases h0 : (c.f0.size : Int) > 120
  · refine Ev.congr (fun k => by rw [rollbookref06_Cell.f, if_pos h0]) ?_
    rw [tb_no (by unfold cellOk leafOk branchOk; split <;> omega)]
    exact Ev.now _
  · refine Ev.congr (fun k => by rw [rollbookref06_Cell.f, if_neg h0]) ?_
    cases leaf with
    | true =>
      refine Ev.congr (fun k => by rw [if_pos rfl]) ?_
      have e0 : cellOk true c = leafOk c := rfl
      rw [e0]
      by_cases h1 : (c.f0.size : Int) = 0
      · rw [tb_no (by unfold leafOk; omega)]
        exact Ev.congr (fun k => by rw [if_pos h1]) (rcell_j c true)
      · rw [tb_eq (p := leafOk c) (b := !(c.f4 != 0) && tb (valOk c))]
        · exact Ev.congr (fun k => by rw [if_neg h1]) (rcell_j c _)
        · simp only [Bool.and_eq_true, Bool.not_eq_true', bne_eq_false_iff_eq, tb_iff]
          exact ⟨fun h => ⟨by omega, by omega, h.1, h.2⟩, fun h => ⟨h.2.2.1, h.2.2.2⟩⟩
    | false =>
      have h := branch_f c
      unfold node_rightBranch.f at h
      rw [if_pos (by omega)] at h
      refine Ev.congr (fun k => by rw [if_neg (by decide)]) ?_
      have e0 : cellOk false c = branchOk c := rfl
      rw [e0]
      refine Ev.congr (fun k => ?_) (Ev.now _)
      rw [← h]
      have : (c.f4 ≤ 511) = (c.f4 < 512) := by rw [eq_iff_iff]; omega
      simp only [this]

/-! ### may they be a node's? -/
theorem rd_nat (l : List S35) (i : Nat) (h : i < l.length) : rd_T35 l (i : Int) = l[i] := by
  simp [rd_T35, List.getD_eq_getElem?_getD, List.getElem?_eq_getElem h]
def key (c : S35) : List UInt8 := c.f0.data.toList
def okAt (leaf : Bool) (l : List S35) (j : Nat) : Prop := ∀ h : j < l.length, cellOk leaf l[j] ∧ (0 < j → key (l[j - 1]'(by omega)) < key l[j])
def okFrom (leaf : Bool) (l : List S35) (i : Nat) : Prop := ∀ j, i ≤ j → okAt leaf l j
def rightP (leaf : Bool) (l : List S35) : Prop := (leaf = true ∨ ∃ h : 0 < l.length, l[0].f0.size = 0) ∧ okFrom leaf l 0
noncomputable def okFromB (leaf : Bool) (l : List S35) (i : Nat) : Bool := tb (okFrom leaf l i)
noncomputable def rightB (leaf : Bool) (l : List S35) : Bool := tb (rightP leaf l)
theorem okFrom_step {leaf : Bool} {l : List S35} {i : Nat} (h : i < l.length) : okFrom leaf l i ↔ (cellOk leaf l[i] ∧ (0 < i → key (l[i - 1]'(by omega)) < key l[i])) ∧ okFrom leaf l (i + 1) := by
  constructor
  · intro hh
    exact ⟨hh i (Nat.le_refl _) h, fun j hj => hh j (by omega)⟩
  · rintro ⟨h1, h2⟩ j hj
    rcases Nat.lt_or_eq_of_le hj with hlt | rfl
    · exact h2 j hlt
    · exact fun _ => h1
theorem okFrom_end {leaf : Bool} {l : List S35} {i : Nat} (h : l.length ≤ i) : okFrom leaf l i := fun j hj hlt => absurd hlt (by omega)
theorem okFromB_true {leaf : Bool} {l : List S35} {i : Nat} : okFromB leaf l i = true ↔ okFrom leaf l i := tb_iff
theorem bless (a b : ByteArray) : Op.bytesLess a.toList b.toList = tb (a.data.toList < b.data.toList) := by
  rw [bl_eq, ByteArray.toList_eq, ByteArray.toList_eq, tb_eq (b := decide (a.data.toList < b.data.toList)) decide_eq_true_iff]
theorem right_loop (leaf : Bool) (l : List S35) (hl : l.length ≤ 1099511627776) : ∀ (d i : Nat), i + d = l.length → Ev (fun k => node_Right.l0 k leaf l (i : Int)) (okFromB leaf l i)
  | 0, i, h => by
    rw [okFromB_true.2 (okFrom_end (by omega))]
    exact Ev.step (fun k => by rw [node_Right.l0, if_neg (by omega)]) (Ev.now _)
  | d + 1, i, h => by
    have hi : i < l.length := by omega
    have ih := right_loop leaf l hl d (i + 1) (by omega)
    have hcell : Ev (fun k => if leaf = true then node_rightLeaf.f k (rd_T35 l i).f0 (rd_T35 l i).f1 (rd_T35 l i).f2 (rd_T35 l i).f3 (rd_T35 l i).f4 else some (tb (branchOk (rd_T35 l i)))) (tb (cellOk leaf (rd_T35 l i))) := by
      unfold cellOk
      cases leaf with
      | true => simp only [if_true]; exact leaf_ev _
      | false => simp only [Bool.false_eq_true, if_false]; exact Ev.now _
    refine Ev.step (fun k => by rw [node_Right.l0, if_pos (by omega), branch_f, Option.bind_some]) (Ev.bind hcell ?_)
    rw [rd_nat l i hi]
    by_cases c : cellOk leaf l[i]
    · refine Ev.congr (fun k => by rw [if_pos (tb_yes c)]) ?_
      by_cases c0 : 0 < i
      · have e0 : ((i : Int) - 1) = ((i - 1 : Nat) : Int) := by omega
        by_cases c1 : key (l[i - 1]'(by omega)) < key l[i]
        · refine Ev.congr (fun k => by rw [if_pos (by omega), e0, rd_nat l (i - 1) (by omega), bless, if_pos (tb_yes (p := (l[i - 1]'(by omega)).f0.data.toList < l[i].f0.data.toList) c1)]) ?_
          have e : okFromB leaf l i = okFromB leaf l (i + 1) := by
            rw [Bool.eq_iff_iff, okFromB_true, okFromB_true, okFrom_step hi]
            exact ⟨fun hh => hh.2, fun hh => ⟨⟨c, fun _ => c1⟩, hh⟩⟩
          rw [e]; exact ih
        · refine Ev.congr (fun k => by rw [if_pos (by omega), e0, rd_nat l (i - 1) (by omega), bless, if_neg (fun hh : tb ((l[i - 1]'(by omega)).f0.data.toList < l[i].f0.data.toList) = true => c1 (tb_iff.1 hh))]) ?_
          have e : okFromB leaf l i = false := by
            rw [Bool.eq_false_iff, Ne, okFromB_true, okFrom_step hi]
            exact fun hh => c1 (hh.1.2 c0)
          rw [e]; exact Ev.now _
      · refine Ev.congr (fun k => by rw [if_neg (by omega)]) ?_
        have e : okFromB leaf l i = okFromB leaf l (i + 1) := by
          rw [Bool.eq_iff_iff, okFromB_true, okFromB_true, okFrom_step hi]
          exact ⟨fun hh => hh.2, fun hh => ⟨⟨c, fun h0 => absurd h0 c0⟩, hh⟩⟩
        rw [e]; exact ih
    · refine Ev.congr (fun k => by rw [if_neg (fun hh => c (tb_iff.1 hh))]) ?_
      have e : okFromB leaf l i = false := by
        rw [Bool.eq_false_iff, Ne, okFromB_true, okFrom_step hi]
        exact fun hh => c hh.1.1
      rw [e]; exact Ev.now _
theorem rightB_of (leaf : Bool) (l : List S35) (h : leaf = true ∨ ∃ h : 0 < l.length, l[0].f0.size = 0) : rightB leaf l = okFromB leaf l 0 := by
  rw [Bool.eq_iff_iff, okFromB_true]
  unfold rightB rightP
  rw [tb_iff]
  exact ⟨fun hh => hh.2, fun hh => ⟨h, hh⟩⟩
theorem rightB_not (leaf : Bool) (l : List S35) (h : ¬ (leaf = true ∨ ∃ h : 0 < l.length, l[0].f0.size = 0)) : rightB leaf l = false := by
  unfold rightB rightP
  exact tb_no (fun hh => h hh.1)
theorem right_ev (leaf : Bool) (l : List S35) (hl : l.length ≤ 1099511627776) : Ev (fun k => node_Right.f k leaf l) (rightB leaf l) := by
  have hr := right_loop leaf l hl l.length 0 (by omega)
  cases leaf with
  | true =>
    refine Ev.congr (fun k => by rw [node_Right.f, if_pos rfl]) ?_
    rw [rightB_of _ _ (.inl rfl)]
    exact hr
  | false =>
    refine Ev.congr (fun k => by rw [node_Right.f, if_neg (by decide)]) ?_
    by_cases c : l.length = 0
    · rw [rightB_not _ _ (by rintro (h | ⟨h, _⟩); exact absurd h (by decide); omega)]
      exact Ev.congr (fun k => by rw [if_pos c]) (Ev.now _)
    · have h0 : rd_T35 l 0 = l[0]'(by omega) := rd_nat l 0 (by omega)
      by_cases c2 : (l[0]'(by omega)).f0.size = 0
      · rw [rightB_of _ _ (.inr ⟨by omega, c2⟩)]
        exact Ev.congr (fun k => by rw [if_neg c, h0, if_pos ((empty_iff _).2 c2)]; rfl) hr
      · rw [rightB_not _ _ (by rintro (h | ⟨h, h'⟩); exact absurd h (by decide); exact c2 h')]
        exact Ev.congr (fun k => by rw [if_neg c, h0, if_neg (fun hh => c2 ((empty_iff _).1 hh))]) (Ev.now _)
end Go.Proofs.Ytjbkkmgkckopdaa.Pure
