import Derived.Test.YtjbkkmgkckopdaaNodeG
namespace Go.Proofs.Ytjbkkmgkckopdaa.Pure
open Go.RowKit Go.Proofs.Ytjbkkmgkckopdaa.PN Go.Proofs.YtjbkkmgkckopdaaW.PrintWords Go.Proofs.YtjbkkmgkckopdaaW.PrintLast Go.Proofs.YtjbkkmgkckopdaaW.PrintMore
set_option linter.unusedVariables false
set_option linter.unusedSimpArgs false

/-! ### the reference's Decode -/
def atV : Option Nat → Nat
  | some n => n
  | none => 0
theorem takeN_lt4 {l : List UInt8} {i sz n : Nat} (hsz : sz ≤ 4) (h : takeN l i sz = some n) : n ≤ 4294967295 := by
  unfold takeN at h
  by_cases c : i + sz ≤ l.length
  · rw [if_pos c] at h
    obtain rfl := Option.some.inj h
    have := Nat.lt_of_lt_of_le (val_lt ((l.drop i).take sz)) (Nat.le_trans (Nat.pow_le_pow_right (by omega) (by rw [List.length_take]; omega : _ ≤ 4)) (by decide : 256 ^ 4 ≤ 4294967296))
    omega
  · rw [if_neg c] at h; exact absurd h (by simp)
theorem at_ev (s : ByteArray) (e sz : Nat) (h1 : 1 ≤ sz) (h4 : sz ≤ 4) (hs : s.size ≤ 1099511627776) (he : e ≤ 1099511627776) : Ev (fun k => rollbookref06_At.f k s (e : Int) (sz : Int)) (atV (takeN s.data.toList e sz) : Int) := by
  have hk := rtake_ev s e sz h1 (by omega) hs he
  refine Ev.congr (fun k => by rw [rollbookref06_At.f]) (Ev.bind hk ?_)
  cases h : takeN s.data.toList e sz with
  | none => exact Ev.congr (fun k => by rw [if_neg (show ¬ (tkR none).2 = 0 by decide)]; rfl) (Ev.now _)
  | some n =>
    have hn := takeN_lt4 h4 h
    have e2 : wrap64 (tkR (some n)).1 = (n : Int) := wc n (by omega)
    exact Ev.congr (fun k => by rw [if_pos (show (tkR (some n)).2 = 0 by rfl), e2]; rfl) (Ev.now _)
theorem at4 (s : ByteArray) (e : Nat) (x : Int) (hx : x = (e : Int)) (hs : s.size ≤ 1099511627776) (he : e ≤ 1099511627776) : Ev (fun k => rollbookref06_At.f k s x 4) (atV (takeN s.data.toList e 4) : Int) := by subst hx; exact at_ev s e 4 (by omega) (by omega) hs he
theorem at1 (s : ByteArray) (e : Nat) (x : Int) (hx : x = (e : Int)) (hs : s.size ≤ 1099511627776) (he : e ≤ 1099511627776) : Ev (fun k => rollbookref06_At.f k s x 1) (atV (takeN s.data.toList e 1) : Int) := by subst hx; exact at_ev s e 1 (by omega) (by omega) hs he
theorem at2 (s : ByteArray) (e : Nat) (x : Int) (hx : x = (e : Int)) (hs : s.size ≤ 1099511627776) (he : e ≤ 1099511627776) : Ev (fun k => rollbookref06_At.f k s x 2) (atV (takeN s.data.toList e 2) : Int) := by subst hx; exact at_ev s e 2 (by omega) (by omega) hs he
theorem rttx (s : ByteArray) (e : Nat) (x : Int) (hx : x = (e : Int)) (hs : s.size ≤ 1099511627776) (he : e ≤ 1099511627776) : Ev (fun k => rollbookref01_TakeText.f k s x) (ttR (ttN s.data.toList e)) := by subst hx; exact rtt_ev s e hs he
theorem rfin (leaf : Bool) (s : ByteArray) (acc : List S35) (n a i : Int) (ha : acc.length ≤ 1048576) (hs : ∀ c ∈ acc, small c) :
    ∃ r, Ev (fun k => rollbookref06_Decode.j1 k leaf s acc n a i false) r ∧ Dec leaf s r := by
  obtain ⟨r, hr, hd⟩ := fin_ev leaf s acc ha hs _ (renc_ev leaf acc ha hs)
  exact ⟨r, Ev.step (fun k => by rw [rollbookref06_Decode.j1, if_neg (by decide)]) hr, hd⟩
theorem rdec_tot (leaf : Bool) (s : ByteArray) (n : Nat) (hs : s.size ≤ 488) : ∀ (d a i : Nat) (acc : List S35), s.size ≤ a + d → a ≤ 200000 → i ≤ a → acc.length = i → (∀ c ∈ acc, c.f0.size ≤ 2000 ∧ c.f1.size ≤ 2000) →
    ∃ r, Ev (fun k => rollbookref06_Decode.l0 k leaf s acc (n : Int) (a : Int) (i : Int)) r ∧ Dec leaf s r := by
  have hl := size_data s
  have stop : ∀ (a i : Nat) (acc : List S35), a ≤ 200000 → i ≤ a → acc.length = i → (∀ c ∈ acc, c.f0.size ≤ 2000 ∧ c.f1.size ≤ 2000) → ¬ (i < n ∧ a < s.size) →
      ∃ r, Ev (fun k => rollbookref06_Decode.l0 k leaf s acc (n : Int) (a : Int) (i : Int)) r ∧ Dec leaf s r := by
    intro a i acc ha hia hlen hc hno
    obtain ⟨r, hr, hd⟩ := rfin leaf s acc (n : Int) (a : Int) (i : Int) (by omega) (fun c hx => ⟨by have := (hc c hx).1; omega, by have := (hc c hx).2; omega⟩)
    refine ⟨r, ?_, hd⟩
    by_cases c1 : i < n
    · have e : decide ((a : Int) < (s.size : Int)) = false := decide_eq_false (by omega)
      exact Ev.step (fun k => by rw [rollbookref06_Decode.l0, if_pos (by omega), e]) hr
    · exact Ev.step (fun k => by rw [rollbookref06_Decode.l0, if_neg (by omega)]) hr
  intro d
  induction d with
  | zero => exact fun a i acc h1 h2 h3 h4 h5 => stop a i acc h2 h3 h4 h5 (by omega)
  | succ d ih =>
    intro a i acc h1 h2 h3 h4 h5
    by_cases c : i < n ∧ a < s.size
    case neg => exact stop a i acc h2 h3 h4 h5 c
    have e : decide ((a : Int) < (s.size : Int)) = true := decide_eq_true (by omega)
    have pre : ∀ r, Ev (fun k => rollbookref06_Decode.j1 k leaf s acc (n : Int) (a : Int) (i : Int) true) r → Ev (fun k => rollbookref06_Decode.l0 k leaf s acc (n : Int) (a : Int) (i : Int)) r :=
      fun r hr => Ev.step (fun k => by rw [rollbookref06_Decode.l0, if_pos (by omega), e]) hr
    have ht := rtt_ev s a (by omega) (by omega)
    have bad : Dec leaf s (([] : List S35), 4) := ⟨fun h => absurd h (by decide), fun _ => rfl⟩
    have more : ∀ (x : S35), x.f0.size ≤ 2000 → x.f1.size ≤ 2000 → (∀ c ∈ acc ++ [x], c.f0.size ≤ 2000 ∧ c.f1.size ≤ 2000) := by
      intro x g0 g1 c hx
      rcases List.mem_append.1 hx with hx | hx
      · exact h5 c hx
      · rw [List.mem_singleton] at hx; subst hx; exact ⟨g0, g1⟩
    cases h : ttN s.data.toList a with
    | none =>
      rw [h] at ht
      exact ⟨_, pre _ (Ev.step (fun k => by rw [rollbookref06_Decode.j1, if_pos rfl]) (Ev.bind ht (Ev.congr (fun k => by rw [if_neg (show ¬ (ttR none).2.2 = 0 by decide)]) (Ev.now _)))), bad⟩
    | some te =>
      obtain ⟨t, tq⟩ := te
      rw [h] at ht
      obtain ⟨l1, l2, l3⟩ := ttN_le h
      have ht1 : (ba t).size ≤ 2000 := by rw [ba_size]; omega
      have hd0 : (⟨#[]⟩ : ByteArray).size ≤ 2000 := by decide
      have head : ∀ r, Ev (fun k => if leaf = true then ((rollbookref06_At.f k s (ttR (some (t, tq))).2.1 1).bind fun t227 => (if t227 = 1 then ((rollbookref06_At.f k s (wrap64 ((ttR (some (t, tq))).2.1 + 1)) 4).bind fun t228 => ((rollbookref06_At.f k s (wrap64 ((ttR (some (t, tq))).2.1 + 5)) 4).bind fun t229 => (if acc.length < 2513169434916 then (rollbookref06_Decode.l0 k leaf s (acc ++ [(⟨(ttR (some (t, tq))).1, (⟨#[]⟩ : ByteArray), t228, t229, 0⟩ : S35)]) n (wrap64 ((ttR (some (t, tq))).2.1 + 9)) (wrap64 ((i : Int) + 1))) else (none)))) else ((rollbookref01_TakeText.f k s (wrap64 ((ttR (some (t, tq))).2.1 + 1))).bind fun bt233 => (if bt233.2.2 = 0 then (if acc.length < 2513169434916 then (rollbookref06_Decode.l0 k leaf s (acc ++ [(⟨(ttR (some (t, tq))).1, bt233.1, 0, 0, 0⟩ : S35)]) n bt233.2.1 (wrap64 ((i : Int) + 1))) else (none)) else (some (([] : List (S35)), 4))))))
          else ((rollbookref06_At.f k s (ttR (some (t, tq))).2.1 4).bind fun t239 => (if acc.length < 2513169434916 then (rollbookref06_Decode.l0 k leaf s (acc ++ [(⟨(ttR (some (t, tq))).1, (⟨#[]⟩ : ByteArray), 0, 0, t239⟩ : S35)]) n (wrap64 ((ttR (some (t, tq))).2.1 + 4)) (wrap64 ((i : Int) + 1))) else (none)))) r → Ev (fun k => rollbookref06_Decode.l0 k leaf s acc (n : Int) (a : Int) (i : Int)) r :=
        fun r hr => pre _ (Ev.step (fun k => by rw [rollbookref06_Decode.j1, if_pos rfl]) (Ev.bind ht (Ev.congr (fun k => by rw [if_pos (show (ttR (some (t, tq))).2.2 = 0 by rfl)]) hr)))
      have hlt := shortC acc (by omega)
      cases leaf with
      | false =>
        have hk := at4 s tq (ttR (some (t, tq))).2.1 rfl (by omega) (by omega)
        obtain ⟨r, hr, hd⟩ := ih (tq + 4) (i + 1) (acc ++ [⟨ba t, ⟨#[]⟩, 0, 0, (atV (takeN s.data.toList tq 4) : Int)⟩]) (by omega) (by omega) (by omega) (by rw [List.length_append, h4]; rfl) (more _ ht1 hd0)
        refine ⟨r, head r ?_, hd⟩
        exact Ev.congr (fun k => by rw [if_neg (by decide)]) (Ev.bind hk (Ev.congr (fun k => by rw [if_pos hlt, show wrap64 ((ttR (some (t, tq))).2.1 + 4) = ((tq + 4 : Nat) : Int) from w4 tq (by omega), w1 i (by omega)]; rfl) hr))
      | true =>
        have hk := at1 s tq (ttR (some (t, tq))).2.1 rfl (by omega) (by omega)
        by_cases c1 : (atV (takeN s.data.toList tq 1) : Int) = 1
        · have hk1 := at4 s (tq + 1) (wrap64 ((ttR (some (t, tq))).2.1 + 1)) (w1 tq (by omega)) (by omega) (by omega)
          have hk5 := at4 s (tq + 5) (wrap64 ((ttR (some (t, tq))).2.1 + 5)) (w5 tq (by omega)) (by omega) (by omega)
          obtain ⟨r, hr, hd⟩ := ih (tq + 9) (i + 1) (acc ++ [⟨ba t, ⟨#[]⟩, (atV (takeN s.data.toList (tq + 1) 4) : Int), (atV (takeN s.data.toList (tq + 5) 4) : Int), 0⟩]) (by omega) (by omega) (by omega) (by rw [List.length_append, h4]; rfl) (more _ ht1 hd0)
          refine ⟨r, head r ?_, hd⟩
          refine Ev.congr (fun k => by rw [if_pos rfl]) (Ev.bind hk ?_)
          refine Ev.congr (fun k => by rw [if_pos c1]) (Ev.bind hk1 (Ev.bind hk5 ?_))
          exact Ev.congr (fun k => by rw [if_pos hlt, show wrap64 ((ttR (some (t, tq))).2.1 + 9) = ((tq + 9 : Nat) : Int) from w9 tq (by omega), w1 i (by omega)]; rfl) hr
        · have hk1 := rttx s (tq + 1) (wrap64 ((ttR (some (t, tq))).2.1 + 1)) (w1 tq (by omega)) (by omega) (by omega)
          cases hv : ttN s.data.toList (tq + 1) with
          | none =>
            rw [hv] at hk1
            refine ⟨(([] : List S35), 4), head _ ?_, bad⟩
            exact Ev.congr (fun k => by rw [if_pos rfl]) (Ev.bind hk (Ev.congr (fun k => by rw [if_neg c1]) (Ev.bind hk1 (Ev.congr (fun k => by rw [if_neg (show ¬ (ttR none).2.2 = 0 by decide)]) (Ev.now _)))))
          | some ve =>
            obtain ⟨v, en⟩ := ve
            rw [hv] at hk1
            obtain ⟨m1, m2, m3⟩ := ttN_le hv
            have hv1 : (ba v).size ≤ 2000 := by rw [ba_size]; omega
            obtain ⟨r, hr, hd⟩ := ih en (i + 1) (acc ++ [⟨ba t, ba v, 0, 0, 0⟩]) (by omega) (by omega) (by omega) (by rw [List.length_append, h4]; rfl) (more _ ht1 hv1)
            refine ⟨r, head r ?_, hd⟩
            exact Ev.congr (fun k => by rw [if_pos rfl]) (Ev.bind hk (Ev.congr (fun k => by rw [if_neg c1]) (Ev.bind hk1 (Ev.congr (fun k => by rw [if_pos (show (ttR (some (v, en))).2.2 = 0 by rfl), if_pos hlt, w1 i (by omega)]; rfl) hr))))
theorem rslot (n : Nat) (hn : n ≤ 70000) : wrap64 (2 + wrap64 (2 * (n : Int))) = ((2 + 2 * n : Nat) : Int) := slot_at n hn
theorem rdecode_tot (leaf : Bool) (s : ByteArray) : s.size ≤ 488 → ∃ r, Ev (fun k => rollbookref06_Decode.f k leaf s) r ∧ Dec leaf s r := by
  intro hs
  have hk := at2 s 0 0 rfl (by omega) (by omega)
  have hn : atV (takeN s.data.toList 0 2) ≤ 65535 := by
    cases h : takeN s.data.toList 0 2 with
    | none => exact Nat.zero_le _
    | some m => have := (takeN_lt h).2; show m ≤ 65535; omega
  obtain ⟨r, hr, hd⟩ := rdec_tot leaf s (atV (takeN s.data.toList 0 2)) hs s.size (2 + 2 * atV (takeN s.data.toList 0 2)) 0 [] (by omega) (by omega) (by omega) rfl (fun c hc => absurd hc (by simp))
  exact ⟨r, Ev.congr (fun k => by rw [rollbookref06_Decode.f, if_neg (by omega)]) (Ev.bind hk (Ev.congr (fun k => by rw [rslot _ (by omega)]; rfl) hr)), hd⟩
theorem rdec_rt (leaf : Bool) (l : List S35) (hr : rightB leaf l = true) (ht : tot leaf l ≤ 488) : ∀ (d i : Nat), i + d = l.length →
    Ev (fun k => rollbookref06_Decode.l0 k leaf (ba (encL leaf l)) (l.take i) (l.length : Int) (pos leaf l i : Int) (i : Int)) (l, 0)
  | 0, i, h => by
    have hn := len_of_tot ht
    rw [List.take_of_length_le (by omega)]
    have he := renc_ev leaf l (by omega) (small_of hr)
    rw [encR_ok hr ht] at he
    exact Ev.step (fun k => by rw [rollbookref06_Decode.l0, if_neg (by omega)]) (Ev.step (fun k => by rw [rollbookref06_Decode.j1, if_neg (by decide)]) (Ev.bind he (Ev.congr (fun k => by rw [if_pos rfl, if_pos rfl]) (Ev.now _))))
  | d + 1, i, h => by
    have hn := len_of_tot ht
    have hi : i < l.length := by omega
    have ih := rdec_rt leaf l hr ht d (i + 1) (by omega)
    rw [List.take_succ_eq_append_getElem hi, pos_succ leaf l i hi] at ih
    have hp := pos_le leaf l i hi
    have hcp := cell_pos leaf l[i]
    have hsz : (ba (encL leaf l)).size = tot leaf l := by rw [ba_size, encL_length]
    have e : decide ((pos leaf l i : Int) < ((ba (encL leaf l)).size : Int)) = true := decide_eq_true (by omega)
    have hok := ok_of_right hr _ (List.getElem_mem hi)
    have hks := key_short hok
    obtain ⟨A2, R2, b1, b2⟩ := enc_cell leaf l i hi
    obtain ⟨g1, g2⟩ := shape_of hok b1 b2
    have htt := rtt_ev (ba (encL leaf l)) (pos leaf l i) (by omega) (by omega)
    rw [ba_data, g1] at htt
    refine Ev.step (fun k => by rw [rollbookref06_Decode.l0, if_pos (by omega), e]) (Ev.step (fun k => by rw [rollbookref06_Decode.j1, if_pos rfl]) (Ev.bind htt ?_))
    refine Ev.congr (fun k => by rw [if_pos (show (ttR (some (l[i].f0.data.toList, pos leaf l i + 2 + l[i].f0.data.toList.length))).2.2 = 0 by rfl)]) ?_
    have e0 : (ttR (some (l[i].f0.data.toList, pos leaf l i + 2 + l[i].f0.data.toList.length))).1 = l[i].f0 := ba_of _
    have hlt := shortC (l.take i) (by rw [List.length_take]; omega)
    have hcell : l[i] = ⟨l[i].f0, l[i].f1, l[i].f2, l[i].f3, l[i].f4⟩ := rfl
    generalize hE : pos leaf l i + 2 + l[i].f0.data.toList.length = E at g2 e0
    have hE2 : E ≤ 5000 := by omega
    have e1 : (ttR (some (l[i].f0.data.toList, E))).2.1 = (E : Int) := rfl
    rw [e0, e1]
    cases g2 with
    | branch hl2 q1 q2 q3 n q4 hn t len =>
      subst hl2
      rw [hE] at t
      have hk4 := at4 (ba (encL false l)) E (E : Int) rfl (by omega) (by omega)
      rw [ba_data, t] at hk4
      rw [len, show pos false l i + (2 + l[i].f0.data.toList.length + 4) = E + 4 by omega, hcell, q1, q2, q3, q4] at ih
      exact Ev.congr (fun k => by rw [if_neg (by decide)]) (Ev.bind hk4 (Ev.congr (fun k => by rw [if_pos hlt, w4 E (by omega), w1 i (by omega)]; rfl) ih))
    | over hl2 q1 q4 n m q2 q3 hn hm t1 t2 t3 len =>
      subst hl2
      rw [hE] at t1 t2 t3
      have hk1 := at1 (ba (encL true l)) E (E : Int) rfl (by omega) (by omega)
      rw [ba_data, t1] at hk1
      have hk2 := at4 (ba (encL true l)) (E + 1) (wrap64 ((E : Int) + 1)) (w1 E (by omega)) (by omega) (by omega)
      rw [ba_data, t2] at hk2
      have hk3 := at4 (ba (encL true l)) (E + 5) (wrap64 ((E : Int) + 5)) (w5 E (by omega)) (by omega) (by omega)
      rw [ba_data, t3] at hk3
      rw [len, show pos true l i + (2 + l[i].f0.data.toList.length + 9) = E + 9 by omega, hcell, q1, q2, q3, q4] at ih
      refine Ev.congr (fun k => by rw [if_pos rfl]) (Ev.bind hk1 ?_)
      refine Ev.congr (fun k => by rw [if_pos (show ((atV (some 1) : Nat) : Int) = 1 by rfl)]) (Ev.bind hk2 (Ev.bind hk3 ?_))
      exact Ev.congr (fun k => by rw [if_pos hlt, w9 E (by omega), w1 i (by omega)]; rfl) ih
    | inl hl2 q2 q3 q4 t1 t2 len =>
      subst hl2
      rw [hE] at t1 t2
      have hk1 := at1 (ba (encL true l)) E (E : Int) rfl (by omega) (by omega)
      rw [ba_data, t1] at hk1
      have hk2 := rttx (ba (encL true l)) (E + 1) (wrap64 ((E : Int) + 1)) (w1 E (by omega)) (by omega) (by omega)
      rw [ba_data, t2] at hk2
      rw [len, show pos true l i + (2 + l[i].f0.data.toList.length + 1 + 2 + l[i].f1.data.toList.length) = E + 1 + 2 + l[i].f1.data.toList.length by omega, hcell, q2, q3, q4] at ih
      have e2 : (ttR (some (l[i].f1.data.toList, E + 1 + 2 + l[i].f1.data.toList.length))).1 = l[i].f1 := ba_of _
      exact Ev.congr (fun k => by rw [if_pos rfl]) (Ev.bind hk1 (Ev.congr (fun k => by rw [if_neg (show ¬ ((atV (some 0) : Nat) : Int) = 1 by decide)]) (Ev.bind hk2 (Ev.congr (fun k => by rw [if_pos (show (ttR (some (l[i].f1.data.toList, E + 1 + 2 + l[i].f1.data.toList.length))).2.2 = 0 by rfl), if_pos hlt, e2, w1 i (by omega)]; rfl) ih))))
theorem rdecode_rt (leaf : Bool) (l : List S35) (hr : rightB leaf l = true) (ht : tot leaf l ≤ 488) : Ev (fun k => rollbookref06_Decode.f k leaf (ba (encL leaf l))) (l, 0) := by
  have hn := len_of_tot ht
  have hsz : (ba (encL leaf l)).size = tot leaf l := by rw [ba_size, encL_length]
  have hk := at2 (ba (encL leaf l)) 0 0 rfl (by omega) (by omega)
  rw [ba_data, take_at' (i := 0) (n := l.length) (A := []) (R := offs leaf (2 + 2 * l.length) l ++ cellsL leaf l) (by unfold encL; simp) rfl (by omega)] at hk
  have h := rdec_rt leaf l hr ht l.length 0 (by omega)
  have e : pos leaf l 0 = 2 + 2 * l.length := by unfold pos; simp [cellsL]
  rw [e] at h
  exact Ev.congr (fun k => by rw [rollbookref06_Decode.f, if_neg (by omega)]) (Ev.bind hk (Ev.congr (fun k => by rw [show ((atV (some l.length) : Nat) : Int) = (l.length : Int) by rfl, rslot _ (by omega)]; rfl) h))

/-! ### both decoders answer alike -/
theorem both (leaf : Bool) (s : ByteArray) (hs : s.size ≤ 2000) : ∃ r, Ev (fun k => node_Decode.f k leaf s) r ∧ Ev (fun k => rollbookref06_Decode.f k leaf s) r := by
  obtain ⟨r1, h1, d1⟩ := decode_tot leaf s hs
  by_cases c : s.size ≤ 488
  · obtain ⟨r2, h2, d2⟩ := rdecode_tot leaf s c
    by_cases z1 : r1.2 = 0
    · obtain ⟨g1, g2, g3⟩ := ok_encR (d1.1 z1)
      have q1 := decode_rt leaf r1.1 g1 g2
      have q2 := rdecode_rt leaf r1.1 g1 g2
      rw [← g3] at q1 q2
      exact ⟨_, q1, q2⟩
    · by_cases z2 : r2.2 = 0
      · obtain ⟨g1, g2, g3⟩ := ok_encR (d2.1 z2)
        have q1 := decode_rt leaf r2.1 g1 g2
        have q2 := rdecode_rt leaf r2.1 g1 g2
        rw [← g3] at q1 q2
        exact ⟨_, q1, q2⟩
      · rw [d1.2 z1] at h1
        rw [d2.2 z2] at h2
        exact ⟨_, h1, h2⟩
  · by_cases z1 : r1.2 = 0
    · obtain ⟨g1, g2, g3⟩ := ok_encR (d1.1 z1)
      rw [g3, ba_size, encL_length] at c
      exact absurd g2 c
    · rw [d1.2 z1] at h1
      exact ⟨_, h1, Ev.congr (fun k => by rw [rollbookref06_Decode.f, if_pos (by omega)]) (Ev.now _)⟩
theorem same_loop (l : List S35) (hl : l.length ≤ 1048576) : ∀ (d i : Nat), i + d = l.length → Ev (fun k => rollbookref06_Same.l0 k l l (i : Int)) true
  | 0, i, h => Ev.step (fun k => by rw [rollbookref06_Same.l0, if_neg (by omega)]) (Ev.now _)
  | d + 1, i, h => by
    refine Ev.step (fun k => by rw [rollbookref06_Same.l0, if_pos (by omega), if_pos (by omega), if_pos (by omega), w1 i (by omega)]) ?_
    refine Ev.congr (fun k => by rw [if_neg (by simp)]) (same_loop l hl d (i + 1) (by omega))
theorem same_ev (l : List S35) (hl : l.length ≤ 1048576) : Ev (fun k => rollbookref06_Same.f k l l) true :=
  Ev.congr (fun k => by rw [rollbookref06_Same.f, if_pos rfl]; rfl) (same_loop l hl l.length 0 (by omega))
theorem len_both {leaf : Bool} {s : ByteArray} {r : List S35 × Int} (hs : s.size ≤ 2000) (h : Ev (fun k => node_Decode.f k leaf s) r) : r.1.length ≤ 1048576 := by
  obtain ⟨r1, h1, d1⟩ := decode_tot leaf s hs
  have e := ev_eq h h1
  by_cases z1 : r1.2 = 0
  · obtain ⟨g1, g2, g3⟩ := ok_encR (d1.1 z1)
    have := len_of_tot g2
    rw [e]; omega
  · rw [e, d1.2 z1]; decide
end Go.Proofs.Ytjbkkmgkckopdaa.Pure
