import Derived.Test.YtjbkkmgkckopdaaNodeF
namespace Go.Proofs.Ytjbkkmgkckopdaa.Pure
open Go.RowKit Go.Proofs.Ytjbkkmgkckopdaa.PN Go.Proofs.YtjbkkmgkckopdaaW.PrintWords Go.Proofs.YtjbkkmgkckopdaaW.PrintLast Go.Proofs.YtjbkkmgkckopdaaW.PrintMore
set_option linter.unusedVariables false
set_option linter.unusedSimpArgs false

/-! ### where a node's parts lie -/
theorem cellsL_append (leaf : Bool) (a b : List S35) : cellsL leaf (a ++ b) = cellsL leaf a ++ cellsL leaf b := by simp [cellsL]
theorem cells_split (leaf : Bool) (l : List S35) (i : Nat) (h : i < l.length) : cellsL leaf l = cellsL leaf (l.take i) ++ (cellL leaf l[i] ++ cellsL leaf (l.drop (i + 1))) := by
  rw [← cellsL_cons, ← List.drop_eq_getElem_cons h, ← cellsL_append, List.take_append_drop]
theorem offs_split (leaf : Bool) : ∀ (l : List S35) (b i : Nat), i < l.length → ∃ R, offs leaf b l = offs leaf b (l.take i) ++ (be 2 (b + (cellsL leaf (l.take i)).length) ++ R)
  | [], b, i, h => absurd h (by simp)
  | c :: r, b, 0, h => ⟨_, by rw [List.take_zero, offs]; simp [offs, cellsL]; rfl⟩
  | c :: r, b, i + 1, h => by
    obtain ⟨R, hR⟩ := offs_split leaf r (b + (cellL leaf c).length) i (by simpa using h)
    refine ⟨R, ?_⟩
    rw [List.take_succ_cons, offs, offs, hR, cellsL_cons, List.length_append, List.append_assoc, ← Nat.add_assoc]
def pos (leaf : Bool) (l : List S35) (i : Nat) : Nat := 2 + 2 * l.length + (cellsL leaf (l.take i)).length
theorem enc_slot (leaf : Bool) (l : List S35) (i : Nat) (h : i < l.length) : ∃ A R, encL leaf l = A ++ be 2 (pos leaf l i) ++ R ∧ A.length = 2 + 2 * i := by
  obtain ⟨R, hR⟩ := offs_split leaf l (2 + 2 * l.length) i h
  refine ⟨be 2 l.length ++ offs leaf (2 + 2 * l.length) (l.take i), R ++ cellsL leaf l, ?_, ?_⟩
  · unfold encL pos
    rw [hR]
    simp
  · rw [List.length_append, be_length, offs_length, List.length_take]; omega
theorem enc_cell (leaf : Bool) (l : List S35) (i : Nat) (h : i < l.length) : ∃ A R, encL leaf l = A ++ cellL leaf l[i] ++ R ∧ A.length = pos leaf l i := by
  refine ⟨be 2 l.length ++ offs leaf (2 + 2 * l.length) l ++ cellsL leaf (l.take i), cellsL leaf (l.drop (i + 1)), ?_, ?_⟩
  · unfold encL
    rw [cells_split leaf l i h]
    simp
  · unfold pos
    rw [List.length_append, List.length_append, be_length, offs_length]
theorem pos_succ (leaf : Bool) (l : List S35) (i : Nat) (h : i < l.length) : pos leaf l (i + 1) = pos leaf l i + (cellL leaf l[i]).length := by
  unfold pos
  rw [List.take_succ_eq_append_getElem h, cellsL_append, List.length_append]
  simp [cellsL]
  omega
theorem pos_le (leaf : Bool) (l : List S35) (i : Nat) (h : i < l.length) : pos leaf l i + (cellL leaf l[i]).length ≤ tot leaf l := by
  obtain ⟨A, R, h1, h2⟩ := enc_cell leaf l i h
  have h3 := congrArg List.length h1
  rw [encL_length, List.length_append, List.length_append] at h3
  omega
theorem cell_pos (leaf : Bool) (c : S35) : 2 ≤ (cellL leaf c).length := by
  unfold cellL
  rw [List.length_append, List.length_append, be_length]
  omega

/-! ### a cell's bytes are read as that cell -/
theorem nil_of_size {s : ByteArray} (h : s.size = 0) : s = ⟨#[]⟩ := bytes_eq (by rw [(empty_iff s).2 h]; exact ((empty_iff ⟨#[]⟩).2 rfl).symm)
theorem take_at' {L A R : List UInt8} {i k n : Nat} (hL : L = A ++ (be k n ++ R)) (hA : A.length = i) (h : n < 256 ^ k) : takeN L i k = some n := by
  subst hL; subst hA
  rw [← List.append_assoc]
  exact take_at A R k n h
theorem tt_at' {L A t R : List UInt8} {i : Nat} (hL : L = A ++ (be 2 t.length ++ (t ++ R))) (hA : A.length = i) (h : t.length < 65536) : ttN L i = some (t, i + 2 + t.length) := by
  subst hL; subst hA
  have := tt_at A t R h
  rw [← this]
  congr 1
  simp
/-- The three ways in which a cell's bytes go on behind its key. -/
inductive Shape (leaf : Bool) (c : S35) (L : List UInt8) (i : Nat) : Prop where
  | branch (hl : leaf = false) (h1 : c.f1 = ⟨#[]⟩) (h2 : c.f2 = 0) (h3 : c.f3 = 0) (n : Nat) (h4 : c.f4 = (n : Int)) (hn : n ≤ 511) (t : takeN L (i + 2 + c.f0.data.toList.length) 4 = some n) (len : (cellL leaf c).length = 2 + c.f0.data.toList.length + 4)
  | over (hl : leaf = true) (h1 : c.f1 = ⟨#[]⟩) (h4 : c.f4 = 0) (n m : Nat) (h2 : c.f2 = (n : Int)) (h3 : c.f3 = (m : Int)) (hn : n ≤ 511) (hm : m ≤ 4000) (t1 : takeN L (i + 2 + c.f0.data.toList.length) 1 = some 1) (t2 : takeN L (i + 2 + c.f0.data.toList.length + 1) 4 = some n) (t3 : takeN L (i + 2 + c.f0.data.toList.length + 5) 4 = some m) (len : (cellL leaf c).length = 2 + c.f0.data.toList.length + 9)
  | inl (hl : leaf = true) (h2 : c.f2 = 0) (h3 : c.f3 = 0) (h4 : c.f4 = 0) (t1 : takeN L (i + 2 + c.f0.data.toList.length) 1 = some 0) (t2 : ttN L (i + 2 + c.f0.data.toList.length + 1) = some (c.f1.data.toList, i + 2 + c.f0.data.toList.length + 1 + 2 + c.f1.data.toList.length)) (len : (cellL leaf c).length = 2 + c.f0.data.toList.length + 1 + 2 + c.f1.data.toList.length)
theorem key_short {leaf : Bool} {c : S35} (h : cellOk leaf c) : c.f0.data.toList.length ≤ 120 ∧ c.f1.data.toList.length ≤ 96 := by
  rw [size_data, size_data]
  unfold cellOk leafOk branchOk valOk at h
  split at h <;> omega
theorem shape_of {leaf : Bool} {c : S35} (h : cellOk leaf c) {L A R : List UInt8} {i : Nat} (hL : L = A ++ cellL leaf c ++ R) (hA : A.length = i) :
    ttN L i = some (c.f0.data.toList, i + 2 + c.f0.data.toList.length) ∧ Shape leaf c L i := by
  have hk := key_short h
  have h0 := size_data c.f0
  have h1 := size_data c.f1
  have hlen := cellL_length leaf c
  have base : ∀ rest, cellL leaf c = be 2 c.f0.size ++ c.f0.data.toList ++ rest → L = A ++ (be 2 c.f0.data.toList.length ++ (c.f0.data.toList ++ (rest ++ R))) := by
    intro rest hr
    rw [hL, hr, h0]
    simp
  have base2 : ∀ rest, cellL leaf c = be 2 c.f0.size ++ c.f0.data.toList ++ rest → L = (A ++ be 2 c.f0.data.toList.length ++ c.f0.data.toList) ++ (rest ++ R) := by
    intro rest hr
    rw [base rest hr]
    simp
  have hA2 : (A ++ be 2 c.f0.data.toList.length ++ c.f0.data.toList).length = i + 2 + c.f0.data.toList.length := by
    rw [List.length_append, List.length_append, be_length, hA]
  refine ⟨tt_at' (base _ rfl) hA (by omega), ?_⟩
  cases leaf with
  | false =>
    have hb : branchOk c := h
    unfold branchOk at hb
    have hr : cellL false c = be 2 c.f0.size ++ c.f0.data.toList ++ be 4 c.f4.toNat := rfl
    refine .branch rfl (nil_of_size (by omega)) (by omega) (by omega) c.f4.toNat (by omega) (by omega) (take_at' (base2 _ hr) hA2 (by omega)) ?_
    rw [hr, List.length_append, List.length_append, be_length, be_length]
  | true =>
    have hb : leafOk c := h
    unfold leafOk valOk at hb
    by_cases c2 : 0 < c.f2
    · have hr : cellL true c = be 2 c.f0.size ++ c.f0.data.toList ++ (be 1 1 ++ (be 4 c.f2.toNat ++ be 4 c.f3.toNat)) := by
        unfold cellL
        rw [if_pos rfl, if_pos c2]
        simp [be]
      have b2 := base2 _ hr
      refine .over rfl (nil_of_size (by omega)) (by omega) c.f2.toNat c.f3.toNat (by omega) (by omega) (by omega) (by omega) (take_at' (R := be 4 c.f2.toNat ++ be 4 c.f3.toNat ++ R) (by rw [b2]; simp) hA2 (by decide)) ?_ ?_ ?_
      · refine take_at' (A := A ++ be 2 c.f0.data.toList.length ++ c.f0.data.toList ++ be 1 1) (R := be 4 c.f3.toNat ++ R) (by rw [b2]; simp) ?_ (by omega)
        rw [List.length_append, hA2, be_length]
      · refine take_at' (A := A ++ be 2 c.f0.data.toList.length ++ c.f0.data.toList ++ be 1 1 ++ be 4 c.f2.toNat) (R := R) (by rw [b2]; simp) ?_ (by omega)
        rw [List.length_append, List.length_append, hA2, be_length, be_length]
      · rw [hr, List.length_append, List.length_append, List.length_append, List.length_append, be_length, be_length, be_length, be_length]
    · have hr : cellL true c = be 2 c.f0.size ++ c.f0.data.toList ++ (be 1 0 ++ (be 2 c.f1.data.toList.length ++ c.f1.data.toList)) := by
        unfold cellL
        rw [if_pos rfl, if_neg c2, h1]
        simp [be]
      have b2 := base2 _ hr
      refine .inl rfl (by omega) (by omega) (by omega) (take_at' (R := be 2 c.f1.data.toList.length ++ c.f1.data.toList ++ R) (by rw [b2]; simp) hA2 (by decide)) ?_ ?_
      · refine tt_at' (A := A ++ be 2 c.f0.data.toList.length ++ c.f0.data.toList ++ be 1 0) (R := R) (by rw [b2]; simp) ?_ (by omega)
        rw [List.length_append, hA2, be_length]
      · rw [hr, List.length_append, List.length_append, List.length_append, List.length_append, be_length, be_length, be_length]; omega
theorem uncell_rt (leaf : Bool) (s : ByteArray) (hs : s.size ≤ 2000) (c : S35) (hc : cellOk leaf c) (A R : List UInt8) (hL : s.data.toList = A ++ cellL leaf c ++ R) :
    Ev (fun k => node_uncell.f k leaf s (A.length : Int)) (c.f0, c.f1, c.f2, c.f3, c.f4, true) := by
  have hl := size_data s
  have hal : A.length ≤ s.data.toList.length := by rw [hL, List.length_append, List.length_append]; omega
  have hk := key_short hc
  obtain ⟨h1, h2⟩ := shape_of hc hL rfl
  have ht := tt_ev s A.length (by omega) (by omega)
  rw [h1] at ht
  refine Ev.congr (fun k => by rw [node_uncell.f]) (Ev.bind ht ?_)
  refine Ev.congr (fun k => by rw [if_pos (show (ttR (some (c.f0.data.toList, A.length + 2 + c.f0.data.toList.length))).2.2 = 0 by rfl)]) ?_
  have e0 : (ttR (some (c.f0.data.toList, A.length + 2 + c.f0.data.toList.length))).1 = c.f0 := ba_of _
  generalize hE : A.length + 2 + c.f0.data.toList.length = E at h2 e0
  have hE2 : E ≤ 5000 := by omega
  have e1 : (ttR (some (c.f0.data.toList, E))).2.1 = (E : Int) := rfl
  rw [e0, e1]
  cases h2 with
  | branch hl2 q1 q2 q3 n q4 hn t len =>
    subst hl2
    have hk4 := take4 s E (E : Int) rfl (by omega)
    rw [hE] at t
    rw [t] at hk4
    refine Ev.congr (fun k => by rw [if_neg (by decide)]) (Ev.bind hk4 ?_)
    rw [q1, q2, q3, q4]
    have e2 : wrap64 (tkR (some n)).1 = (n : Int) := wc n (by omega)
    rw [e2]
    exact Ev.now _
  | over hl2 q1 q4 n m q2 q3 hn hm t1 t2 t3 len =>
    subst hl2
    rw [hE] at t1 t2 t3
    have hk1 := take1 s E (E : Int) rfl (by omega)
    rw [t1] at hk1
    have hk2 := take4 s (E + 1) (wrap64 ((E : Int) + 1)) (w1 E (by omega)) (by omega)
    rw [t2] at hk2
    have hk3 := take4 s (E + 5) (wrap64 ((E : Int) + 5)) (w5 E (by omega)) (by omega)
    rw [t3] at hk3
    refine Ev.congr (fun k => by rw [if_pos rfl]) (Ev.bind hk1 ?_)
    refine Ev.congr (fun k => by rw [if_pos (show (tkR (some 1)).2 = 0 by rfl), if_pos (show (tkR (some 1)).1 = 1 by rfl)]) (Ev.bind hk2 (Ev.bind hk3 ?_))
    rw [q1, q2, q3, q4]
    have e2 : wrap64 (tkR (some n)).1 = (n : Int) := wc n (by omega)
    have e3 : wrap64 (tkR (some m)).1 = (m : Int) := wc m (by omega)
    rw [e2, e3]
    exact Ev.congr (fun k => by rw [if_pos (show (tkR (some n)).2 = 0 by rfl)]; rfl) (Ev.now _)
  | inl hl2 q2 q3 q4 t1 t2 len =>
    subst hl2
    rw [hE] at t1 t2
    have hk1 := take1 s E (E : Int) rfl (by omega)
    rw [t1] at hk1
    have hk2 := ttx s (E + 1) (wrap64 ((E : Int) + 1)) (w1 E (by omega)) (by omega) (by omega)
    rw [t2] at hk2
    refine Ev.congr (fun k => by rw [if_pos rfl]) (Ev.bind hk1 ?_)
    refine Ev.congr (fun k => by rw [if_pos (show (tkR (some 0)).2 = 0 by rfl), if_neg (show ¬ (tkR (some 0)).1 = 1 by decide)]) (Ev.bind hk2 ?_)
    have e2 : (ttR (some (c.f1.data.toList, E + 1 + 2 + c.f1.data.toList.length))).1 = c.f1 := ba_of _
    rw [q2, q3, q4, e2]
    exact Ev.now _
theorem get_rt (leaf : Bool) (l : List S35) (hr : rightB leaf l = true) (ht : tot leaf l ≤ 488) (i : Nat) (hi : i < l.length) :
    Ev (fun k => node_get.f k leaf (ba (encL leaf l)) (i : Int)) (l[i].f0, l[i].f1, l[i].f2, l[i].f3, l[i].f4, true) := by
  have hn := len_of_tot ht
  have hp := pos_le leaf l i hi
  have hsz : (ba (encL leaf l)).size ≤ 488 := by rw [ba_size, encL_length]; exact ht
  obtain ⟨A1, R1, a1, a2⟩ := enc_slot leaf l i hi
  obtain ⟨A2, R2, b1, b2⟩ := enc_cell leaf l i hi
  have hk := take2 (ba (encL leaf l)) (2 + 2 * i) (wrap64 (2 + wrap64 (2 * (i : Int)))) (slot_at i (by omega)) (by omega)
  rw [ba_data, take_at' (n := pos leaf l i) (R := R1) (by rw [a1, List.append_assoc]) a2 (by omega)] at hk
  have hu := uncell_rt leaf (ba (encL leaf l)) (by omega) l[i] (ok_of_right hr _ (List.getElem_mem hi)) A2 R2 (by rw [ba_data]; exact b1)
  rw [b2] at hu
  have hu' : Ev (fun k => node_uncell.f k leaf (ba (encL leaf l)) (wrap64 (tkR (some (pos leaf l i))).1)) (l[i].f0, l[i].f1, l[i].f2, l[i].f3, l[i].f4, true) := by
    rw [show wrap64 (tkR (some (pos leaf l i))).1 = (pos leaf l i : Int) from wc _ (by omega)]; exact hu
  exact Ev.congr (fun k => by rw [node_get.f]) (Ev.bind hk (Ev.congr (fun k => by rw [if_pos (show (tkR (some (pos leaf l i))).2 = 0 by rfl)]) (Ev.bind hu' (Ev.now _))))
theorem small_of {leaf : Bool} {l : List S35} (hr : rightB leaf l = true) : ∀ c ∈ l, small c := fun c hc => by
  have h := key_short (ok_of_right hr c hc)
  rw [size_data, size_data] at h
  exact ⟨by omega, by omega⟩
theorem encR_ok {leaf : Bool} {l : List S35} (hr : rightB leaf l = true) (ht : tot leaf l ≤ 488) : encR leaf l = (ba (encL leaf l), 0) := by
  unfold encR
  rw [if_pos hr, if_neg (by omega)]
theorem ok_encR {leaf : Bool} {l : List S35} {s : ByteArray} (h : encR leaf l = (s, 0)) : rightB leaf l = true ∧ tot leaf l ≤ 488 ∧ s = ba (encL leaf l) := by
  unfold encR at h
  by_cases h1 : rightB leaf l = true
  · rw [if_pos h1] at h
    by_cases h2 : tot leaf l > 488
    · rw [if_pos h2] at h; simp at h
    · rw [if_neg h2] at h
      simp only [Prod.mk.injEq] at h
      exact ⟨h1, by omega, h.1.symm⟩
  · rw [if_neg h1] at h; simp at h
theorem dec_rt (leaf : Bool) (l : List S35) (hr : rightB leaf l = true) (ht : tot leaf l ≤ 488) : ∀ (d i : Nat), i + d = l.length →
    Ev (fun k => node_Decode.l0 k leaf (ba (encL leaf l)) (l.take i) (l.length : Int) (i : Int)) (l, 0)
  | 0, i, h => by
    have hn := len_of_tot ht
    rw [List.take_of_length_le (by omega)]
    have he := enc_ev leaf l (by omega) (small_of hr)
    rw [encR_ok hr ht] at he
    exact Ev.step (fun k => by rw [node_Decode.l0, if_neg (by omega)]) (Ev.bind he (Ev.congr (fun k => by rw [if_pos rfl, if_pos rfl]) (Ev.now _)))
  | d + 1, i, h => by
    have hn := len_of_tot ht
    have hi : i < l.length := by omega
    have ih := dec_rt leaf l hr ht d (i + 1) (by omega)
    rw [List.take_succ_eq_append_getElem hi] at ih
    refine Ev.step (fun k => by rw [node_Decode.l0, if_pos (by omega)]) (Ev.bind (get_rt leaf l hr ht i hi) ?_)
    exact Ev.congr (fun k => by rw [if_pos rfl, if_pos (shortC _ (by rw [List.length_take]; omega)), w1 i (by omega)]) ih
theorem decode_rt (leaf : Bool) (l : List S35) (hr : rightB leaf l = true) (ht : tot leaf l ≤ 488) : Ev (fun k => node_Decode.f k leaf (ba (encL leaf l))) (l, 0) := by
  have hn := len_of_tot ht
  have hsz : (ba (encL leaf l)).size = tot leaf l := by rw [ba_size, encL_length]
  have hc := cellsL_tot leaf l
  obtain ⟨n, hn1, _, hn2⟩ := cnt_ev (ba (encL leaf l)) (by omega)
  have e : n = l.length := hn2 l.length (by
    rw [ba_data]
    exact take_at' (A := []) (R := offs leaf (2 + 2 * l.length) l ++ cellsL leaf l) (by unfold encL; simp) rfl (by omega)) (by rw [hsz]; unfold tot; omega)
  rw [e] at hn1
  exact Ev.congr (fun k => by rw [node_Decode.f]) (Ev.bind hn1 (dec_rt leaf l hr ht l.length 0 (by omega)))
end Go.Proofs.Ytjbkkmgkckopdaa.Pure
