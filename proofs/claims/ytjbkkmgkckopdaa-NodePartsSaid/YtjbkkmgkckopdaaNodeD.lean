import Derived.Test.YtjbkkmgkckopdaaNodeC
namespace Go.Proofs.Ytjbkkmgkckopdaa.Pure
open Go.RowKit Go.Proofs.Ytjbkkmgkckopdaa.PN Go.Proofs.YtjbkkmgkckopdaaW.PrintWords Go.Proofs.YtjbkkmgkckopdaaW.PrintLast Go.Proofs.YtjbkkmgkckopdaaW.PrintMore
set_option linter.unusedVariables false
set_option linter.unusedSimpArgs false

/-! ### the reference's Right -/
def headP (leaf : Bool) (l : List S35) : Prop := leaf = true ∨ ∃ h : 0 < l.length, l[0].f0.size = 0
theorem rright_loop (leaf : Bool) (l : List S35) (hl : l.length ≤ 1099511627776) (hk : ∀ c ∈ l, c.f0.size ≤ 1099511627776) (hne : leaf = true ∨ 0 < l.length) : ∀ (d i : Nat), i + d = l.length →
    Ev (fun k => rollbookref06_Right.l0 k leaf l (i : Int)) (okFromB leaf l i && tb (headP leaf l))
  | 0, i, h => by
    rw [okFromB_true.2 (okFrom_end (by omega)), Bool.true_and]
    refine Ev.step (fun k => by rw [rollbookref06_Right.l0, if_neg (by omega)]) ?_
    cases leaf with
    | true =>
      rw [tb_yes (.inl rfl)]
      exact Ev.congr (fun k => by rw [if_pos rfl]) (Ev.now _)
    | false =>
      have h0 : 0 < l.length := by
        rcases hne with hne | hne
        · exact absurd hne (by decide)
        · exact hne
      have e : rd_T35 l 0 = l[0] := rd_nat l 0 h0
      refine Ev.congr (fun k => by rw [if_neg (by decide), if_pos (by omega), e]) ?_
      rw [tb_eq (p := headP false l) (b := (l[0].f0.toList == ([] : List UInt8)))]
      · exact Ev.now _
      · rw [beq_iff_eq, empty_iff]
        unfold headP
        exact ⟨fun hh => .inr ⟨h0, hh⟩, fun hh => by
          rcases hh with hh | ⟨_, hh⟩
          · exact absurd hh (by decide)
          · exact hh⟩
  | d + 1, i, h => by
    have hi : i < l.length := by omega
    have ih := rright_loop leaf l hl hk hne d (i + 1) (by omega)
    refine Ev.step (fun k => by rw [rollbookref06_Right.l0, if_pos (by omega), if_pos (by omega)]) (Ev.bind (rcell_ev leaf (rd_T35 l i)) ?_)
    rw [rd_nat l i hi]
    by_cases c : cellOk leaf l[i]
    · refine Ev.congr (fun k => by rw [if_pos (tb_yes c)]) ?_
      by_cases c0 : 0 < i
      · have hi1 : i - 1 < l.length := by omega
        have e0 : wrap64 ((i : Int) - 1) = ((i - 1 : Nat) : Int) := by rw [w64 (by omega) (by omega)]; omega
        have hless := less_ev (l[i - 1]).f0 (l[i]).f0 (hk _ (List.getElem_mem _)) (hk _ (List.getElem_mem _))
        refine Ev.congr (fun k => by rw [if_pos (by omega), e0, if_pos (by clear e0; omega), if_pos (by clear e0; omega), rd_nat l (i - 1) hi1]) (Ev.bind hless ?_)
        clear e0
        by_cases c1 : key (l[i - 1]) < key l[i]
        · have c1' := (cmpI_lt (l[i - 1]).f0.data.toList (l[i]).f0.data.toList).2 c1
          refine Ev.congr (fun k => by rw [if_neg (by omega), w1 i (by omega)]) ?_
          have e : okFromB leaf l i = okFromB leaf l (i + 1) := by
            rw [Bool.eq_iff_iff, okFromB_true, okFromB_true, okFrom_step hi]
            exact ⟨fun hh => hh.2, fun hh => ⟨⟨c, fun _ => c1⟩, hh⟩⟩
          rw [e]; exact ih
        · have c1' : ¬ cmpI (l[i - 1]).f0.data.toList (l[i]).f0.data.toList < 0 := fun hh => c1 ((cmpI_lt _ _).1 hh)
          refine Ev.congr (fun k => by rw [if_pos (by omega)]) ?_
          have e : okFromB leaf l i = false := by
            rw [Bool.eq_false_iff, Ne, okFromB_true, okFrom_step hi]
            exact fun hh => c1 (hh.1.2 c0)
          rw [e]; exact Ev.now _
      · refine Ev.congr (fun k => by rw [if_neg (by omega), w1 i (by omega)]) ?_
        have e : okFromB leaf l i = okFromB leaf l (i + 1) := by
          rw [Bool.eq_iff_iff, okFromB_true, okFromB_true, okFrom_step hi]
          exact ⟨fun hh => hh.2, fun hh => ⟨⟨c, fun h0 => absurd h0 c0⟩, hh⟩⟩
        rw [e]; exact ih
    · refine Ev.congr (fun k => by rw [if_neg (fun hh => c (tb_iff.1 hh))]) ?_
      have e : okFromB leaf l i = false := by
        rw [Bool.eq_false_iff, Ne, okFromB_true, okFrom_step hi]
        exact fun hh => c hh.1.1
      rw [e]; exact Ev.now _
theorem rightB_and (leaf : Bool) (l : List S35) : rightB leaf l = (okFromB leaf l 0 && tb (headP leaf l)) := by
  rw [Bool.eq_iff_iff, Bool.and_eq_true, okFromB_true, tb_iff]
  unfold rightB rightP headP
  rw [tb_iff, and_comm]
theorem rright_ev (leaf : Bool) (l : List S35) (hl : l.length ≤ 1099511627776) (hk : ∀ c ∈ l, c.f0.size ≤ 1099511627776) : Ev (fun k => rollbookref06_Right.f k leaf l) (rightB leaf l) := by
  rw [rightB_and]
  cases leaf with
  | true =>
    refine Ev.congr (fun k => by rw [rollbookref06_Right.f, if_pos rfl]) (Ev.step (fun k => by rw [rollbookref06_Right.j0, if_neg (by decide)]) ?_)
    exact rright_loop true l hl hk (.inl rfl) l.length 0 (by omega)
  | false =>
    refine Ev.congr (fun k => by rw [rollbookref06_Right.f, if_neg (by decide)]) ?_
    by_cases c : l.length = 0
    · have e : ((l.length : Int) == 0) = true := by rw [beq_iff_eq]; omega
      rw [e, tb_no (p := headP false l) (by rintro (h | ⟨h, _⟩); exact absurd h (by decide); omega), Bool.and_false]
      exact Ev.step (fun k => by rw [rollbookref06_Right.j0, if_pos rfl]) (Ev.now _)
    · have e : ((l.length : Int) == 0) = false := by rw [beq_eq_false_iff_ne]; omega
      rw [e]
      refine Ev.step (fun k => by rw [rollbookref06_Right.j0, if_neg (by decide)]) ?_
      exact rright_loop false l hl hk (.inr (by omega)) l.length 0 (by omega)

/-! ### sizes -/
def csz (leaf : Bool) (c : S35) : Nat := 4 + c.f0.size + (if leaf = true then (if 0 < c.f2 then 9 else 3 + c.f1.size) else 4)
def tot (leaf : Bool) (l : List S35) : Nat := 2 + (l.map (csz leaf)).sum
def small (c : S35) : Prop := c.f0.size ≤ 1099511627776 ∧ c.f1.size ≤ 1099511627776
theorem csz_le {leaf : Bool} {c : S35} (h : small c) : csz leaf c ≤ 2199023255568 := by
  unfold csz
  obtain ⟨h1, h2⟩ := h
  split
  · split <;> omega
  · omega
theorem size_f (leaf : Bool) (c : S35) (h : small c) : node_size.f leaf c.f0 c.f1 c.f2 c.f3 c.f4 = some (csz leaf c : Int) := by
  obtain ⟨h1, h2⟩ := h
  unfold node_size.f csz
  have e1 : wrap64 (4 + (c.f0.size : Int)) = ((4 + c.f0.size : Nat) : Int) := by rw [w64 (by omega) (by omega)]; omega
  rw [e1]; clear e1
  cases leaf with
  | true =>
    simp only [if_true]
    by_cases h3 : c.f2 > 0
    · rw [if_pos h3, if_pos h3, w9 _ (by omega)]
    · rw [if_neg h3, if_neg h3, w3 _ (by omega), wadd _ _ (by omega)]; congr 2; omega
  | false =>
    simp only [Bool.false_eq_true, if_false]
    rw [w4 _ (by omega)]
theorem long_f (leaf : Bool) (c : S35) (h : small c) : rollbookref06_Long.f leaf c.f0 c.f1 c.f2 c.f3 c.f4 = some ((csz leaf c - 2 : Nat) : Int) := by
  obtain ⟨h1, h2⟩ := h
  unfold rollbookref06_Long.f csz
  have e1 : wrap64 (2 + (c.f0.size : Int)) = ((2 + c.f0.size : Nat) : Int) := by rw [w64 (by omega) (by omega)]; omega
  rw [e1]; clear e1
  cases leaf with
  | true =>
    simp only [if_true]
    by_cases h3 : c.f2 > 0
    · rw [if_pos h3, if_pos h3, w9 _ (by omega)]; congr 2; omega
    · rw [if_neg h3, if_neg h3, w3 _ (by omega), wadd _ _ (by omega)]; congr 2; omega
  | false =>
    simp only [Bool.false_eq_true, if_false]
    rw [w4 _ (by omega)]; congr 2; omega
theorem sum_drop (f : S35 → Nat) (l : List S35) (i : Nat) (h : i < l.length) : ((l.drop i).map f).sum = f l[i] + ((l.drop (i + 1)).map f).sum := by
  rw [List.drop_eq_getElem_cons h, List.map_cons, List.sum_cons]
theorem csz_sum_le {leaf : Bool} (l : List S35) (h : ∀ c ∈ l, small c) : (l.map (csz leaf)).sum ≤ l.length * 2199023255568 := by
  induction l with
  | nil => simp
  | cons c l ih =>
    have h1 := csz_le (leaf := leaf) (h c (by simp))
    have h2 := ih (fun x hx => h x (by simp [hx]))
    rw [List.map_cons, List.sum_cons, List.length_cons, Nat.succ_mul]
    omega
theorem sum_loop (leaf : Bool) (l : List S35) (hl : l.length ≤ 1048576) (hs : ∀ c ∈ l, small c) : ∀ (d i a : Nat), i + d = l.length → a ≤ 2 + i * 2199023255568 →
    Ev (fun k => node_sum.l0 k leaf (a : Int) l (l.length : Int) (i : Int)) ((a + ((l.drop i).map (csz leaf)).sum : Nat) : Int)
  | 0, i, a, h, ha => by
    rw [List.drop_of_length_le (by omega)]
    exact Ev.step (fun k => by rw [node_sum.l0, if_neg (by omega)]; rfl) (Ev.now _)
  | d + 1, i, a, h, ha => by
    have hi : i < l.length := by omega
    have hc := csz_le (leaf := leaf) (hs _ (List.getElem_mem hi))
    refine Ev.step (fun k => by rw [node_sum.l0, if_pos (by omega), if_pos (by omega), if_pos (by omega), rd_nat l i hi, size_f leaf _ (hs _ (List.getElem_mem hi)), Option.bind_some, wadd _ _ (by omega), w1 i (by omega)]) ?_
    rw [sum_drop _ _ _ hi, ← Nat.add_assoc]
    exact sum_loop leaf l hl hs d (i + 1) _ (by omega) (by omega)
theorem sum_ev (leaf : Bool) (l : List S35) (hl : l.length ≤ 1048576) (hs : ∀ c ∈ l, small c) : Ev (fun k => node_sum.f k leaf l) (tot leaf l : Int) := by
  have h := sum_loop leaf l hl hs l.length 0 2 (by omega) (by omega)
  rw [List.drop_zero] at h
  exact h
theorem count_loop (leaf : Bool) (l : List S35) (hl : l.length ≤ 1048576) (hs : ∀ c ∈ l, small c) : ∀ (d i a : Nat), i + d = l.length → a ≤ 2 + i * 2199023255568 →
    Ev (fun k => rollbookref06_Count.l0 k leaf l (a : Int) (i : Int)) ((a + ((l.drop i).map (csz leaf)).sum : Nat) : Int)
  | 0, i, a, h, ha => by
    rw [List.drop_of_length_le (by omega)]
    exact Ev.step (fun k => by rw [rollbookref06_Count.l0, if_neg (by omega)]; rfl) (Ev.now _)
  | d + 1, i, a, h, ha => by
    have hi : i < l.length := by omega
    have hc := csz_le (leaf := leaf) (hs _ (List.getElem_mem hi))
    have h4 : 4 ≤ csz leaf l[i] := by unfold csz; omega
    refine Ev.step (fun k => by rw [rollbookref06_Count.l0, if_pos (by omega), if_pos (by omega), rd_nat l i hi, long_f leaf _ (hs _ (List.getElem_mem hi)), Option.bind_some, w2 a (by omega), wadd _ _ (by omega), w1 i (by omega)]) ?_
    rw [sum_drop _ _ _ hi, ← Nat.add_assoc, show a + 2 + (csz leaf l[i] - 2) = a + csz leaf l[i] by omega]
    exact count_loop leaf l hl hs d (i + 1) _ (by omega) (by omega)
theorem count_ev (leaf : Bool) (l : List S35) (hl : l.length ≤ 1048576) (hs : ∀ c ∈ l, small c) : Ev (fun k => rollbookref06_Count.f k leaf l) (tot leaf l : Int) := by
  have h := count_loop leaf l hl hs l.length 0 2 (by omega) (by omega)
  rw [List.drop_zero] at h
  exact h

/-! ### a cell's bytes -/
def cellL (leaf : Bool) (c : S35) : List UInt8 :=
  be 2 c.f0.size ++ c.f0.data.toList ++
    (if leaf = true then (if 0 < c.f2 then [1] ++ be 4 c.f2.toNat ++ be 4 c.f3.toNat else [0] ++ be 2 c.f1.size ++ c.f1.data.toList) else be 4 c.f4.toNat)
theorem cellL_length (leaf : Bool) (c : S35) : (cellL leaf c).length + 2 = csz leaf c := by
  have h0 := size_data c.f0
  have h1 := size_data c.f1
  unfold cellL csz
  rw [List.length_append, List.length_append, be_length]
  split
  · split
    · rw [List.length_append, List.length_append, be_length, be_length, List.length_singleton]; omega
    · rw [List.length_append, List.length_append, be_length, List.length_singleton]; omega
  · rw [be_length]; omega
theorem ba_of_app (x : List UInt8) (t : ByteArray) : ba x ++ t = ba (x ++ t.data.toList) := by rw [← ba_append, ba_of]
theorem text_ev (s : List UInt8) (t : ByteArray) (hs : s.length ≤ 1099511627776) (ht : t.size ≤ 65535) : Ev (fun k => field_Text.f k (ba s) t) (ba (s ++ be 2 t.size ++ t.data.toList), 0) := by
  refine Ev.congr (fun k => by rw [field_Text.f, if_neg (by omega)]) ?_
  have hp : Ev (fun k => field_Put.f k (ba s) (t.size : Int) 2) (ba s ++ ba (be 2 t.size), 0) := put_ev (ba s) t.size 2 (by omega) (by omega) (by omega) (by rw [ba_size]; exact hs)
  rw [ba_append] at hp
  refine Ev.bind hp (Ev.congr (fun k => by rw [if_pos (by rw [ba_size, List.length_append, be_length]; omega)]) ?_)
  have e : ba (s ++ be 2 t.size) ++ t = ba (s ++ be 2 t.size ++ t.data.toList) := ba_of_app _ _
  simp only [e]
  exact Ev.now _
theorem put4_ev (s : List UInt8) (x : Int) (hs : s.length ≤ 1099511627776) (h0 : 0 ≤ x) (h1 : x ≤ 4294967295) : Ev (fun k => field_Put.f k (ba s) (IntKind.u64.wrap x) 4) (ba (s ++ be 4 x.toNat), 0) := by
  obtain ⟨n, rfl⟩ := Int.eq_ofNat_of_zero_le h0
  rw [u64 (by omega) (by omega)]
  have hp : Ev (fun k => field_Put.f k (ba s) (n : Int) 4) (ba s ++ ba (be 4 n), 0) := put_ev (ba s) n 4 (by omega) (by omega) (by omega) (by rw [ba_size]; exact hs)
  rw [ba_append] at hp
  exact hp
theorem ba_nil : (⟨#[]⟩ : ByteArray) = ba [] := rfl
theorem ba_one (b : UInt8) : (⟨#[b]⟩ : ByteArray) = ba [b] := rfl
theorem cell_ev (leaf : Bool) (c : S35) (h : cellOk leaf c) : Ev (fun k => node_cell.f k leaf c.f0 c.f1 c.f2 c.f3 c.f4) (ba (cellL leaf c)) := by
  have hk : c.f0.size ≤ 120 := by
    unfold cellOk leafOk branchOk at h
    split at h <;> omega
  have h0 := size_data c.f0
  have ht := text_ev [] c.f0 (by simp) (by omega)
  rw [← ba_nil, List.nil_append] at ht
  have hl : (be 2 c.f0.size ++ c.f0.data.toList).length ≤ 122 := by rw [List.length_append, be_length]; omega
  refine Ev.congr (fun k => by rw [node_cell.f]) (Ev.bind ht ?_)
  unfold cellL
  cases leaf with
  | false =>
    have hb : branchOk c := h
    unfold branchOk at hb
    simp only [Bool.false_eq_true, if_false]
    exact Ev.bind (put4_ev _ c.f4 (by omega) (by omega) (by omega)) (Ev.now _)
  | true =>
    have hb : leafOk c := h
    unfold leafOk valOk at hb
    simp only [if_true]
    by_cases h2 : 0 < c.f2
    · refine Ev.congr (fun k => by rw [if_pos h2, if_pos (by rw [ba_size]; omega), ba_one, ba_append]) ?_
      rw [if_pos h2]
      have hp := put4_ev (be 2 c.f0.size ++ c.f0.data.toList ++ [1]) c.f2 (by rw [List.length_append, List.length_singleton]; omega) (by omega) (by omega)
      have hq := put4_ev (be 2 c.f0.size ++ c.f0.data.toList ++ [1] ++ be 4 c.f2.toNat) c.f3 (by rw [List.length_append, be_length, List.length_append, List.length_singleton]; omega) (by omega) (by omega)
      rw [← List.append_assoc, ← List.append_assoc]
      exact Ev.bind hp (Ev.bind hq (Ev.now _))
    · refine Ev.congr (fun k => by rw [if_neg h2, if_pos (by rw [ba_size]; omega), ba_one, ba_append]) ?_
      rw [if_neg h2]
      have hp := text_ev (be 2 c.f0.size ++ c.f0.data.toList ++ [0]) c.f1 (by rw [List.length_append, List.length_singleton]; omega) (by omega)
      rw [← List.append_assoc, ← List.append_assoc]
      exact Ev.bind hp (Ev.now _)
theorem num4_ev (x : Int) (h0 : 0 ≤ x) (h1 : x ≤ 4294967295) : Ev (fun k => rollbookref04_Number.f k x 4) (ba (be 4 x.toNat)) := by
  obtain ⟨n, rfl⟩ := Int.eq_ofNat_of_zero_le h0
  exact number_ev n 4 (by omega) (by omega) (by omega)
theorem num2_ev (n : Nat) (h1 : n ≤ 65535) : Ev (fun k => rollbookref04_Number.f k (n : Int) 2) (ba (be 2 n)) := number_ev n 2 (by omega) (by omega) (by omega)
theorem one_ev (leaf : Bool) (c : S35) (h : cellOk leaf c) : Ev (fun k => rollbookref06_One.f k leaf c.f0 c.f1 c.f2 c.f3 c.f4) (ba (cellL leaf c)) := by
  have hk : c.f0.size ≤ 120 := by
    unfold cellOk leafOk branchOk at h
    split at h <;> omega
  have h0 := size_data c.f0
  have h1 := size_data c.f1
  refine Ev.congr (fun k => by rw [rollbookref06_One.f]) (Ev.bind (num2_ev _ (by omega)) ?_)
  unfold cellL
  have e0 : ba (be 2 c.f0.size) ++ c.f0 = ba (be 2 c.f0.size ++ c.f0.data.toList) := by rw [← ba_append, ba_of]
  cases leaf with
  | false =>
    have hb : branchOk c := h
    unfold branchOk at hb
    simp only [Bool.false_eq_true, if_false]
    refine Ev.bind (num4_ev c.f4 (by omega) (by omega)) (Ev.congr (fun k => by rw [if_pos (by rw [ba_size, ba_size, be_length, be_length]; omega), e0, ba_append]) (Ev.now _))
  | true =>
    have hb : leafOk c := h
    unfold leafOk valOk at hb
    simp only [if_true]
    by_cases h2 : 0 < c.f2
    · simp only [if_pos h2]
      refine Ev.bind (num4_ev c.f2 (by omega) (by omega)) (Ev.bind (num4_ev c.f3 (by omega) (by omega)) (Ev.congr (fun k => by rw [if_pos (by rw [ba_size, ba_size, ba_size, be_length, be_length, be_length]; omega), e0, ba_one, ba_append, ba_append, ba_append]) ?_))
      rw [← List.append_assoc, ← List.append_assoc]
      exact Ev.now _
    · simp only [if_neg h2]
      have e1 : ∀ x : List UInt8, ba x ++ c.f1 = ba (x ++ c.f1.data.toList) := fun x => by rw [← ba_append, ba_of]
      refine Ev.bind (num2_ev _ (by omega)) (Ev.congr (fun k => by rw [if_pos (by rw [ba_size, ba_size, be_length, be_length]; omega), e0, ba_one, ba_append, ba_append, e1]) ?_)
      rw [← List.append_assoc, ← List.append_assoc]
      exact Ev.now _
end Go.Proofs.Ytjbkkmgkckopdaa.Pure
