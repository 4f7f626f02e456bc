import Derived.Test.YtjbkkmgkckopdaaNodeD
namespace Go.Proofs.Ytjbkkmgkckopdaa.Pure
open Go.RowKit Go.Proofs.Ytjbkkmgkckopdaa.PN Go.Proofs.YtjbkkmgkckopdaaW.PrintWords Go.Proofs.YtjbkkmgkckopdaaW.PrintLast Go.Proofs.YtjbkkmgkckopdaaW.PrintMore
set_option linter.unusedVariables false
set_option linter.unusedSimpArgs false

/-! ### a node's bytes -/
def offs (leaf : Bool) : Nat → List S35 → List UInt8
  | _, [] => []
  | i, c :: r => be 2 i ++ offs leaf (i + (cellL leaf c).length) r
def cellsL (leaf : Bool) (l : List S35) : List UInt8 := l.flatMap (cellL leaf)
def encL (leaf : Bool) (l : List S35) : List UInt8 := be 2 l.length ++ offs leaf (2 + 2 * l.length) l ++ cellsL leaf l
noncomputable def encR (leaf : Bool) (l : List S35) : ByteArray × Int :=
  if rightB leaf l = true then (if tot leaf l > 488 then (⟨#[]⟩, 5) else (ba (encL leaf l), 0)) else (⟨#[]⟩, 4)
theorem cellsL_cons (leaf : Bool) (c : S35) (r : List S35) : cellsL leaf (c :: r) = cellL leaf c ++ cellsL leaf r := by simp [cellsL]
theorem cellsL_tot (leaf : Bool) : ∀ l : List S35, (cellsL leaf l).length + 2 * l.length = (l.map (csz leaf)).sum
  | [] => rfl
  | c :: r => by
    have h := cellsL_tot leaf r
    have h2 := cellL_length leaf c
    rw [cellsL_cons, List.length_append, List.map_cons, List.sum_cons, List.length_cons]
    omega
theorem offs_length (leaf : Bool) : ∀ (l : List S35) (i : Nat), (offs leaf i l).length = 2 * l.length
  | [], _ => rfl
  | c :: r, i => by rw [offs, List.length_append, be_length, offs_length leaf r, List.length_cons]; omega
theorem encL_length (leaf : Bool) (l : List S35) : (encL leaf l).length = tot leaf l := by
  have h := cellsL_tot leaf l
  unfold encL tot
  rw [List.length_append, List.length_append, be_length, offs_length]
  omega
theorem enc_loop (leaf : Bool) (l : List S35) (hok : ∀ c ∈ l, cellOk leaf c) (F : Nat) : ∀ (d i : Nat) (H T : List UInt8), i + d = l.length → l.length ≤ 1000 → H.length ≤ 4 * i + 10 → F + T.length + (cellsL leaf (l.drop i)).length ≤ 488 →
    Ev (fun k => node_Encode.l0 k leaf (ba H) (ba T) (F : Int) l (l.length : Int) (i : Int)) (ba (H ++ offs leaf (F + T.length) (l.drop i) ++ (T ++ cellsL leaf (l.drop i))), 0)
  | 0, i, H, T, h, hl, hH, hF => by
    rw [List.drop_of_length_le (by omega)]
    refine Ev.step (fun k => by rw [node_Encode.l0, if_neg (by omega), if_pos (by rw [ba_size, ba_size]; omega), ba_append]) ?_
    simp only [offs, cellsL, List.append_nil, List.flatMap_nil]
    exact Ev.now _
  | d + 1, i, H, T, h, hl, hH, hF => by
    have hi : i < l.length := by omega
    have hd := List.drop_eq_getElem_cons hi
    rw [hd, cellsL_cons, List.length_append] at hF
    rw [hd, cellsL_cons, offs]
    have hp : Ev (fun k => field_Put.f k (ba H) ((F + T.length : Nat) : Int) 2) (ba H ++ ba (be 2 (F + T.length)), 0) := put_ev (ba H) (F + T.length) 2 (by omega) (by omega) (by omega) (by rw [ba_size]; omega)
    rw [ba_append] at hp
    have hc := cell_ev leaf l[i] (hok _ (List.getElem_mem hi))
    have e1 : IntKind.u64.wrap (wrap64 ((F : Int) + ((ba T).size : Int))) = ((F + T.length : Nat) : Int) := by
      rw [ba_size, wadd _ _ (by omega), u64 (by omega) (by omega)]
    refine Ev.step (fun k => by rw [node_Encode.l0, if_pos (by clear e1; omega), if_pos (by clear e1; omega), if_pos (by clear e1; omega), e1, rd_nat l i hi]) (Ev.bind hp (Ev.bind hc ?_))
    clear e1
    refine Ev.congr (fun k => by rw [if_pos (by rw [ba_size, ba_size]; omega), ba_append, w1 i (by omega)]) ?_
    have ih := enc_loop leaf l hok F d (i + 1) (H ++ be 2 (F + T.length)) (T ++ cellL leaf l[i]) (by omega) hl (by rw [List.length_append, be_length]; omega) (by rw [List.length_append]; omega)
    rw [List.length_append, ← Nat.add_assoc] at ih
    rw [← List.append_assoc H, ← List.append_assoc T]
    exact ih
theorem ok_of_right {leaf : Bool} {l : List S35} (h : rightB leaf l = true) : ∀ c ∈ l, cellOk leaf c := by
  unfold rightB at h
  have hr := (tb_iff.1 h).2
  intro c hc
  obtain ⟨i, hi, rfl⟩ := List.mem_iff_getElem.1 hc
  exact (hr i (Nat.zero_le _) hi).1
theorem len_of_tot {leaf : Bool} {l : List S35} (h : tot leaf l ≤ 488) : l.length ≤ 488 := by
  have := cellsL_tot leaf l
  unfold tot at h
  omega
theorem enc_ev (leaf : Bool) (l : List S35) (hl : l.length ≤ 1048576) (hs : ∀ c ∈ l, small c) : Ev (fun k => node_Encode.f k leaf l) (encR leaf l) := by
  refine Ev.congr (fun k => by rw [node_Encode.f]) (Ev.bind (right_ev leaf l (by omega)) ?_)
  unfold encR
  by_cases h1 : rightB leaf l = true
  case neg =>
    rw [if_neg h1]
    exact Ev.congr (fun k => by rw [if_neg h1]) (Ev.now _)
  rw [if_pos h1]
  refine Ev.congr (fun k => by rw [if_pos h1]) (Ev.bind (sum_ev leaf l hl hs) ?_)
  by_cases h2 : tot leaf l > 488
  · rw [if_pos h2]
    exact Ev.congr (fun k => by rw [if_pos (by omega)]) (Ev.now _)
  rw [if_neg h2]
  have hlen := len_of_tot (leaf := leaf) (l := l) (by omega)
  have ht := cellsL_tot leaf l
  unfold tot at h2
  have e1 : IntKind.u64.wrap (l.length : Int) = (l.length : Int) := u64 (by omega) (by omega)
  have hp : Ev (fun k => field_Put.f k (⟨#[]⟩ : ByteArray) (l.length : Int) 2) (ba [] ++ ba (be 2 l.length), 0) := put_ev (ba []) l.length 2 (by omega) (by omega) (by omega) (by decide)
  rw [ba_append, List.nil_append] at hp
  refine Ev.congr (fun k => by rw [if_neg (by unfold tot; clear e1; omega), e1]) (Ev.bind hp ?_)
  clear e1
  have e2 : wrap64 (2 * (l.length : Int)) = ((2 * l.length : Nat) : Int) := by rw [w64 (by omega) (by omega)]; omega
  have e3 : wrap64 (2 + ((2 * l.length : Nat) : Int)) = ((2 + 2 * l.length : Nat) : Int) := by rw [w64 (by omega) (by omega)]; omega
  refine Ev.congr (fun k => by rw [e2, e3]) ?_
  clear e2 e3
  have h := enc_loop leaf l (ok_of_right h1) (2 + 2 * l.length) l.length 0 (be 2 l.length) [] (by omega) (by omega) (by rw [be_length]; omega) (by rw [List.drop_zero, List.length_nil]; omega)
  rw [List.drop_zero, List.nil_append, List.length_nil, Nat.add_zero] at h
  exact h
theorem renc_l1 (leaf : Bool) (l : List S35) (hok : ∀ c ∈ l, cellOk leaf c) : ∀ (d i : Nat) (H : List UInt8), i + d = l.length → l.length ≤ 1000 → H.length + (cellsL leaf (l.drop i)).length ≤ 10000 →
    Ev (fun k => rollbookref06_Encode.l1 k leaf l (ba H) (i : Int)) (ba (H ++ cellsL leaf (l.drop i)), 0)
  | 0, i, H, h, hl, hH => by
    rw [List.drop_of_length_le (by omega)]
    refine Ev.step (fun k => by rw [rollbookref06_Encode.l1, if_neg (by omega)]) ?_
    simp only [cellsL, List.append_nil, List.flatMap_nil]
    exact Ev.now _
  | d + 1, i, H, h, hl, hH => by
    have hi : i < l.length := by omega
    have hd := List.drop_eq_getElem_cons hi
    rw [hd, cellsL_cons, List.length_append] at hH
    rw [hd, cellsL_cons]
    have hc := one_ev leaf l[i] (hok _ (List.getElem_mem hi))
    refine Ev.step (fun k => by rw [rollbookref06_Encode.l1, if_pos (by omega), if_pos (by omega), rd_nat l i hi]) (Ev.bind hc ?_)
    refine Ev.congr (fun k => by rw [if_pos (by rw [ba_size, ba_size]; omega), ba_append, w1 i (by omega)]) ?_
    have ih := renc_l1 leaf l hok d (i + 1) (H ++ cellL leaf l[i]) (by omega) hl (by rw [List.length_append]; omega)
    rw [← List.append_assoc H]
    exact ih
theorem renc_l0 (leaf : Bool) (l : List S35) (hok : ∀ c ∈ l, cellOk leaf c) : ∀ (d i : Nat) (H : List UInt8) (at_ : Nat), i + d = l.length → l.length ≤ 1000 → H.length ≤ 4 * i + 10 → at_ + (cellsL leaf (l.drop i)).length ≤ 488 → (cellsL leaf l).length ≤ 488 →
    Ev (fun k => rollbookref06_Encode.l0 k leaf l (ba H) (at_ : Int) (i : Int)) (ba (H ++ offs leaf at_ (l.drop i) ++ cellsL leaf l), 0)
  | 0, i, H, at_, h, hl, hH, hF, hA => by
    rw [List.drop_of_length_le (by omega)]
    refine Ev.step (fun k => by rw [rollbookref06_Encode.l0, if_neg (by omega)]) ?_
    have h1 := renc_l1 leaf l hok l.length 0 H (by omega) hl (by rw [List.drop_zero]; omega)
    rw [List.drop_zero] at h1
    rw [offs, List.append_nil]
    exact h1
  | d + 1, i, H, at_, h, hl, hH, hF, hA => by
    have hi : i < l.length := by omega
    have hd := List.drop_eq_getElem_cons hi
    rw [hd, cellsL_cons, List.length_append] at hF
    rw [hd, offs]
    have hc := one_ev leaf l[i] (hok _ (List.getElem_mem hi))
    refine Ev.step (fun k => by rw [rollbookref06_Encode.l0, if_pos (by omega)]) (Ev.bind (num2_ev at_ (by omega)) ?_)
    refine Ev.congr (fun k => by rw [if_pos (by rw [ba_size, ba_size, be_length]; omega), if_pos (by omega), rd_nat l i hi, ba_append]) (Ev.bind hc ?_)
    refine Ev.congr (fun k => by rw [ba_size, wadd _ _ (by omega), w1 i (by omega)]) ?_
    have ih := renc_l0 leaf l hok d (i + 1) (H ++ be 2 at_) (at_ + (cellL leaf l[i]).length) (by omega) hl (by rw [List.length_append, be_length]; omega) (by omega) hA
    rw [← List.append_assoc H]
    exact ih
theorem renc_ev (leaf : Bool) (l : List S35) (hl : l.length ≤ 1048576) (hs : ∀ c ∈ l, small c) : Ev (fun k => rollbookref06_Encode.f k leaf l) (encR leaf l) := by
  refine Ev.congr (fun k => by rw [rollbookref06_Encode.f]) (Ev.bind (rright_ev leaf l (by omega) (fun c hc => (hs c hc).1)) ?_)
  unfold encR
  by_cases h1 : rightB leaf l = true
  case neg =>
    rw [if_neg h1]
    exact Ev.congr (fun k => by rw [if_neg h1]) (Ev.now _)
  rw [if_pos h1]
  refine Ev.congr (fun k => by rw [if_pos h1]) (Ev.bind (count_ev leaf l hl hs) ?_)
  by_cases h2 : tot leaf l > 488
  · rw [if_pos h2]
    exact Ev.congr (fun k => by rw [if_pos (by omega)]) (Ev.now _)
  rw [if_neg h2]
  have hlen := len_of_tot (leaf := leaf) (l := l) (by omega)
  have ht := cellsL_tot leaf l
  unfold tot at h2
  refine Ev.congr (fun k => by rw [if_neg (by unfold tot; omega)]) (Ev.bind (num2_ev _ (by omega)) ?_)
  have e2 : wrap64 (2 * (l.length : Int)) = ((2 * l.length : Nat) : Int) := by rw [w64 (by omega) (by omega)]; omega
  have e3 : wrap64 (2 + ((2 * l.length : Nat) : Int)) = ((2 + 2 * l.length : Nat) : Int) := by rw [w64 (by omega) (by omega)]; omega
  refine Ev.congr (fun k => by rw [e2, e3]) ?_
  clear e2 e3
  have h := renc_l0 leaf l (ok_of_right h1) l.length 0 (be 2 l.length) (2 + 2 * l.length) (by omega) (by omega) (by rw [be_length]; omega) (by rw [List.drop_zero]; omega) (by omega)
  rw [List.drop_zero] at h
  exact h
theorem awake_ev : Ev (fun k => rollbooklaw06_awake.f k) true := Ev.of rollbooklaw06_awake.mono (k := 60) (by kernel_rfl)
end Go.Proofs.Ytjbkkmgkckopdaa.Pure
