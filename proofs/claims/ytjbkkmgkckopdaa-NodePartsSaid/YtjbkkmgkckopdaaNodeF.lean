import Derived.Test.YtjbkkmgkckopdaaNodeE
namespace Go.Proofs.Ytjbkkmgkckopdaa.Pure
open Go.RowKit Go.Proofs.Ytjbkkmgkckopdaa.PN Go.Proofs.YtjbkkmgkckopdaaW.PrintWords Go.Proofs.YtjbkkmgkckopdaaW.PrintLast Go.Proofs.YtjbkkmgkckopdaaW.PrintMore
set_option linter.unusedVariables false
set_option linter.unusedSimpArgs false

/-! ### reading at a place of joined bytes -/
theorem take_at (A R : List UInt8) (k n : Nat) (h : n < 256 ^ k) : takeN (A ++ be k n ++ R) A.length k = some n := by
  unfold takeN
  rw [if_pos (by rw [List.length_append, List.length_append, be_length]; omega), List.append_assoc, List.drop_left' rfl, List.take_left' (be_length k n), val_be k n h]
theorem tt_at (A t R : List UInt8) (h : t.length < 65536) : ttN (A ++ (be 2 t.length ++ t) ++ R) A.length = some (t, A.length + 2 + t.length) := by
  unfold ttN
  have e : A ++ (be 2 t.length ++ t) ++ R = A ++ be 2 t.length ++ (t ++ R) := by simp
  rw [e, take_at A (t ++ R) 2 t.length (by omega), Option.bind_some]
  rw [if_pos (by rw [List.length_append, List.length_append, List.length_append, be_length]; omega)]
  have e2 : A ++ be 2 t.length ++ (t ++ R) = (A ++ be 2 t.length) ++ (t ++ R) := rfl
  rw [List.drop_left' (by rw [List.length_append, be_length]), List.take_left' rfl]
theorem ev_eq {α : Type} {g : Nat → Option α} {r r' : α} (h : Ev g r) (h' : Ev g r') : r = r' := by
  obtain ⟨K, h⟩ := h
  obtain ⟨K', h'⟩ := h'
  have h1 := h (max K K') (by omega)
  have h2 := h' (max K K') (by omega)
  exact Option.some.inj (h1.symm.trans h2)

/-! ### a cell read -/
theorem take4 (s : ByteArray) (e : Nat) (x : Int) (hx : x = (e : Int)) (hs : s.size ≤ 1099511627776) : Ev (fun k => field_Take.f k s x 4) (tkR (takeN s.data.toList e 4)) := by subst hx; exact take_ev s e 4 (by omega) (by omega) hs
theorem take1 (s : ByteArray) (e : Nat) (x : Int) (hx : x = (e : Int)) (hs : s.size ≤ 1099511627776) : Ev (fun k => field_Take.f k s x 1) (tkR (takeN s.data.toList e 1)) := by subst hx; exact take_ev s e 1 (by omega) (by omega) hs
theorem take2 (s : ByteArray) (e : Nat) (x : Int) (hx : x = (e : Int)) (hs : s.size ≤ 1099511627776) : Ev (fun k => field_Take.f k s x 2) (tkR (takeN s.data.toList e 2)) := by subst hx; exact take_ev s e 2 (by omega) (by omega) hs
theorem ttx (s : ByteArray) (e : Nat) (x : Int) (hx : x = (e : Int)) (hs : s.size ≤ 1099511627776) (he : e ≤ 1099511627776) : Ev (fun k => field_TakeText.f k s x) (ttR (ttN s.data.toList e)) := by subst hx; exact tt_ev s e hs he
abbrev R6 := ByteArray × ByteArray × Int × Int × Int × Bool
theorem ttN_le {l t : List UInt8} {i e : Nat} (h : ttN l i = some (t, e)) : t.length ≤ l.length ∧ e ≤ l.length ∧ i + 2 ≤ e := by
  unfold ttN at h
  obtain ⟨n, h1, h2⟩ := Option.bind_eq_some_iff.1 h
  by_cases c : i + 2 + n ≤ l.length
  · rw [if_pos c] at h2
    simp only [Option.some.injEq, Prod.mk.injEq] at h2
    obtain ⟨rfl, rfl⟩ := h2
    rw [List.length_take, List.length_drop]
    omega
  · rw [if_neg c] at h2; exact absurd h2 (by simp)
theorem takeN4_lt {l : List UInt8} {i n : Nat} (h : takeN l i 4 = some n) : n ≤ 4294967295 := by
  unfold takeN at h
  by_cases c : i + 4 ≤ l.length
  · rw [if_pos c] at h
    obtain rfl := Option.some.inj h
    have := Nat.lt_of_lt_of_le (val_lt ((l.drop i).take 4)) (Nat.le_trans (Nat.pow_le_pow_right (by omega) (by rw [List.length_take]; omega : _ ≤ 4)) (by decide : 256 ^ 4 ≤ 4294967296))
    omega
  · rw [if_neg c] at h; exact absurd h (by simp)
theorem wtk4 (o : Option Nat) (h : ∀ n, o = some n → n ≤ 4294967295) : wrap64 (tkR o).1 = (tkR o).1 := by
  cases o with
  | none => exact w64 (by decide) (by decide)
  | some n => exact wc n (by have := h n rfl; omega)
theorem uncell_tot (leaf : Bool) (s : ByteArray) (i : Nat) (hs : s.size ≤ 2000) (hi : i ≤ 70000) : ∃ r : R6, Ev (fun k => node_uncell.f k leaf s (i : Int)) r ∧ r.1.size ≤ 2000 ∧ r.2.1.size ≤ 2000 := by
  have hl := size_data s
  have ht := tt_ev s i (by omega) (by omega)
  cases h : ttN s.data.toList i with
  | none =>
    rw [h] at ht
    exact ⟨_, Ev.congr (fun k => by rw [node_uncell.f]) (Ev.bind ht (Ev.congr (fun k => by rw [if_neg (show ¬ (ttR none).2.2 = 0 by decide)]) (Ev.now _))), by decide, by decide⟩
  | some te =>
    obtain ⟨t, e⟩ := te
    rw [h] at ht
    obtain ⟨l1, l2, l3⟩ := ttN_le h
    have ht1 : (ba t).size ≤ 2000 := by rw [ba_size]; omega
    cases leaf with
    | false =>
      have hk := take4 s e (ttR (some (t, e))).2.1 rfl (by omega)
      exact ⟨_, Ev.congr (fun k => by rw [node_uncell.f]) (Ev.bind ht (Ev.congr (fun k => by rw [if_pos (show (ttR (some (t, e))).2.2 = 0 by rfl), if_neg (by decide)]) (Ev.bind hk (Ev.now _)))), ht1, (by decide : (⟨#[]⟩ : ByteArray).size ≤ 2000)⟩
    | true =>
      have hk := take1 s e (ttR (some (t, e))).2.1 rfl (by omega)
      cases hq : takeN s.data.toList e 1 with
      | none =>
        rw [hq] at hk
        exact ⟨_, Ev.congr (fun k => by rw [node_uncell.f]) (Ev.bind ht (Ev.congr (fun k => by rw [if_pos (show (ttR (some (t, e))).2.2 = 0 by rfl), if_pos rfl]) (Ev.bind hk (Ev.congr (fun k => by rw [if_neg (show ¬ (tkR none).2 = 0 by decide)]) (Ev.now _))))), ht1, (by decide : (⟨#[]⟩ : ByteArray).size ≤ 2000)⟩
      | some kd =>
        rw [hq] at hk
        by_cases ck : (kd : Int) = 1
        · have hk1 := take4 s (e + 1) (wrap64 ((ttR (some (t, e))).2.1 + 1)) (w1 e (by omega)) (by omega)
          have hk5 := take4 s (e + 5) (wrap64 ((ttR (some (t, e))).2.1 + 5)) (w5 e (by omega)) (by omega)
          have tl : ∃ r : R6, Ev (fun k => (field_Take.f k s (wrap64 ((ttR (some (t, e))).2.1 + 1)) 4).bind fun bt149 => ((field_Take.f k s (wrap64 ((ttR (some (t, e))).2.1 + 5)) 4).bind fun bt151 => (if bt149.2 = 0 then (some ((ttR (some (t, e))).1, (⟨#[]⟩ : ByteArray), wrap64 (bt149.1), wrap64 (bt151.1), 0, (bt151.2 == 0))) else (some ((ttR (some (t, e))).1, (⟨#[]⟩ : ByteArray), wrap64 (bt149.1), wrap64 (bt151.1), 0, false))))) r ∧ r.1.size ≤ 2000 ∧ r.2.1.size ≤ 2000 := by
            by_cases c2 : (tkR (takeN s.data.toList (e + 1) 4)).2 = 0
            · exact ⟨((ttR (some (t, e))).1, (⟨#[]⟩ : ByteArray), wrap64 (tkR (takeN s.data.toList (e + 1) 4)).1, wrap64 (tkR (takeN s.data.toList (e + 5) 4)).1, 0, ((tkR (takeN s.data.toList (e + 5) 4)).2 == 0)), Ev.bind hk1 (Ev.bind hk5 (Ev.congr (fun k => by rw [if_pos c2]) (Ev.now _))), ht1, (by decide : (⟨#[]⟩ : ByteArray).size ≤ 2000)⟩
            · exact ⟨((ttR (some (t, e))).1, (⟨#[]⟩ : ByteArray), wrap64 (tkR (takeN s.data.toList (e + 1) 4)).1, wrap64 (tkR (takeN s.data.toList (e + 5) 4)).1, 0, false), Ev.bind hk1 (Ev.bind hk5 (Ev.congr (fun k => by rw [if_neg c2]) (Ev.now _))), ht1, (by decide : (⟨#[]⟩ : ByteArray).size ≤ 2000)⟩
          obtain ⟨r, hr, g1, g2⟩ := tl
          exact ⟨r, Ev.congr (fun k => by rw [node_uncell.f]) (Ev.bind ht (Ev.congr (fun k => by rw [if_pos (show (ttR (some (t, e))).2.2 = 0 by rfl), if_pos rfl]) (Ev.bind hk (Ev.congr (fun k => by rw [if_pos (show (tkR (some kd)).2 = 0 by rfl), if_pos (show (tkR (some kd)).1 = 1 from ck)]) hr)))), g1, g2⟩
        · have hk1 := ttx s (e + 1) (wrap64 ((ttR (some (t, e))).2.1 + 1)) (w1 e (by omega)) (by omega) (by omega)
          refine ⟨_, Ev.congr (fun k => by rw [node_uncell.f]) (Ev.bind ht (Ev.congr (fun k => by rw [if_pos (show (ttR (some (t, e))).2.2 = 0 by rfl), if_pos rfl]) (Ev.bind hk (Ev.congr (fun k => by rw [if_pos (show (tkR (some kd)).2 = 0 by rfl), if_neg (show ¬ (tkR (some kd)).1 = 1 from ck)]) (Ev.bind hk1 (Ev.now _)))))), ht1, ?_⟩
          show (ttR (ttN s.data.toList (e + 1))).1.size ≤ 2000
          cases hv : ttN s.data.toList (e + 1) with
          | none => decide
          | some vp => obtain ⟨v, p⟩ := vp; have := (ttN_le hv).1; show (ba v).size ≤ 2000; rw [ba_size]; omega
theorem slot_at (i : Nat) (hi : i ≤ 70000) : wrap64 (2 + wrap64 (2 * (i : Int))) = ((2 + 2 * i : Nat) : Int) := by
  have e2 : wrap64 (2 * (i : Int)) = ((2 * i : Nat) : Int) := by rw [w64 (by omega) (by omega)]; omega
  rw [e2]; clear e2
  rw [w64 (by omega) (by omega)]; omega
theorem get_tot (leaf : Bool) (s : ByteArray) (i : Nat) (hs : s.size ≤ 2000) (hi : i ≤ 70000) : ∃ r : R6, Ev (fun k => node_get.f k leaf s (i : Int)) r ∧ r.1.size ≤ 2000 ∧ r.2.1.size ≤ 2000 := by
  have hk := take2 s (2 + 2 * i) (wrap64 (2 + wrap64 (2 * (i : Int)))) (slot_at i hi) (by omega)
  cases h : takeN s.data.toList (2 + 2 * i) 2 with
  | none =>
    rw [h] at hk
    exact ⟨_, Ev.congr (fun k => by rw [node_get.f]) (Ev.bind hk (Ev.congr (fun k => by rw [if_neg (show ¬ (tkR none).2 = 0 by decide)]) (Ev.now _))), by decide, by decide⟩
  | some n =>
    rw [h] at hk
    have hn := (takeN_lt h).2
    obtain ⟨r, hr, h1, h2⟩ := uncell_tot leaf s n hs (by omega)
    have hr' : Ev (fun k => node_uncell.f k leaf s (wrap64 (tkR (some n)).1)) r := by
      rw [show wrap64 (tkR (some n)).1 = (n : Int) from wc n (by omega)]; exact hr
    exact ⟨_, Ev.congr (fun k => by rw [node_get.f]) (Ev.bind hk (Ev.congr (fun k => by rw [if_pos (show (tkR (some n)).2 = 0 by rfl)]) (Ev.bind hr' (Ev.now _)))), h1, h2⟩
theorem shortC (xs : List S35) (h : xs.length ≤ 100000) : xs.length < 2513169434916 := by omega
/-- What a decoder's answer is worth. -/
def Dec (leaf : Bool) (s : ByteArray) (r : List S35 × Int) : Prop := (r.2 = 0 → encR leaf r.1 = (s, 0)) ∧ (r.2 ≠ 0 → r = ([], 4))
theorem bytes_eq {a b : ByteArray} (h : a.toList = b.toList) : a = b := by
  rw [ByteArray.toList_eq, ByteArray.toList_eq] at h
  rw [← ba_of a, h, ba_of]
theorem fin_ev (leaf : Bool) (s : ByteArray) (acc : List S35) (ha : acc.length ≤ 1048576) (hs : ∀ c ∈ acc, small c) (g : Nat → Option (ByteArray × Int)) (hg : Ev g (encR leaf acc)) :
    ∃ r, Ev (fun k => (g k).bind fun b => (if b.2 = 0 then (if b.1.toList = s.toList then (some (acc, (0 : Int))) else (some (([] : List S35), 4))) else (some (([] : List S35), 4)))) r ∧ Dec leaf s r := by
  by_cases h1 : (encR leaf acc).2 = 0
  · by_cases h2 : (encR leaf acc).1.toList = s.toList
    · exact ⟨_, Ev.bind hg (Ev.congr (fun k => by rw [if_pos h1, if_pos h2]) (Ev.now _)), fun _ => by rw [← bytes_eq h2, ← h1], fun h => absurd rfl h⟩
    · exact ⟨_, Ev.bind hg (Ev.congr (fun k => by rw [if_pos h1, if_neg h2]) (Ev.now _)), fun h => absurd h (by decide), fun _ => rfl⟩
  · exact ⟨_, Ev.bind hg (Ev.congr (fun k => by rw [if_neg h1]) (Ev.now _)), fun h => absurd h (by decide), fun _ => rfl⟩
theorem dec_tot (leaf : Bool) (s : ByteArray) (n : Nat) (hs : s.size ≤ 2000) (hn : n ≤ 1000) : ∀ (d i : Nat) (acc : List S35), i + d = n → acc.length = i → (∀ c ∈ acc, c.f0.size ≤ 2000 ∧ c.f1.size ≤ 2000) →
    ∃ r, Ev (fun k => node_Decode.l0 k leaf s acc (n : Int) (i : Int)) r ∧ Dec leaf s r
  | 0, i, acc, h, ha, hc => by
    have hsm : ∀ c ∈ acc, small c := fun c hx => ⟨by have := (hc c hx).1; omega, by have := (hc c hx).2; omega⟩
    obtain ⟨r, hr, hd⟩ := fin_ev leaf s acc (by omega) hsm _ (enc_ev leaf acc (by omega) hsm)
    exact ⟨r, Ev.step (fun k => by rw [node_Decode.l0, if_neg (by omega)]) hr, hd⟩
  | d + 1, i, acc, h, ha, hc => by
    obtain ⟨r6, hr6, h1, h2⟩ := get_tot leaf s i hs (by omega)
    by_cases hok : r6.2.2.2.2.2 = true
    · obtain ⟨r, hr, hd⟩ := dec_tot leaf s n hs hn d (i + 1) (acc ++ [⟨r6.1, r6.2.1, r6.2.2.1, r6.2.2.2.1, r6.2.2.2.2.1⟩]) (by omega) (by rw [List.length_append, ha]; rfl) (by
        intro c hx
        rcases List.mem_append.1 hx with hx | hx
        · exact hc c hx
        · rw [List.mem_singleton] at hx; subst hx; exact ⟨h1, h2⟩)
      refine ⟨r, Ev.step (fun k => by rw [node_Decode.l0, if_pos (by omega)]) (Ev.bind hr6 (Ev.congr (fun k => by rw [if_pos hok, if_pos (shortC acc (by omega)), w1 i (by omega)]) hr)), hd⟩
    · exact ⟨_, Ev.step (fun k => by rw [node_Decode.l0, if_pos (by omega)]) (Ev.bind hr6 (Ev.congr (fun k => by rw [if_neg hok]) (Ev.now _))), fun h => absurd h (by decide), fun _ => rfl⟩
theorem cnt_ev (s : ByteArray) (hs : s.size ≤ 2000) : ∃ n : Nat, Ev (fun k => node_count.f k s) (n : Int) ∧ n ≤ 1000 ∧ ∀ m, takeN s.data.toList 0 2 = some m → 2 * m + 2 ≤ s.size → n = m := by
  have hk := take2 s 0 0 rfl (by omega)
  have e : wrap64 ((s.size : Int) / 2) = ((s.size / 2 : Nat) : Int) := by rw [w64 (by omega) (by omega)]; omega
  have e2 : wrap64 (((s.size / 2 : Nat) : Int) - 1) = ((s.size / 2 : Nat) : Int) - 1 := w64 (by omega) (by omega)
  cases h : takeN s.data.toList 0 2 with
  | none =>
    rw [h] at hk
    exact ⟨0, Ev.congr (fun k => by rw [node_count.f]) (Ev.bind hk (Ev.congr (fun k => by rw [if_neg (show ¬ (tkR none).2 = 0 by decide)]; rfl) (Ev.now _))), by omega, fun m hm => absurd hm (by simp)⟩
  | some n =>
    rw [h] at hk
    have hn := (takeN_lt h).2
    have e3 : wrap64 (tkR (some n)).1 = (n : Int) := wc n (by omega)
    by_cases c : (n : Int) > ((s.size / 2 : Nat) : Int) - 1
    · refine ⟨0, Ev.congr (fun k => by rw [node_count.f]) (Ev.bind hk (Ev.congr (fun k => by rw [if_pos (show (tkR (some n)).2 = 0 by rfl), e3, e, e2, if_pos c]; rfl) (Ev.now _))), by omega, fun m hm hh => ?_⟩
      obtain rfl := Option.some.inj hm
      clear e e2 e3
      omega
    · refine ⟨n, Ev.congr (fun k => by rw [node_count.f]) (Ev.bind hk (Ev.congr (fun k => by rw [if_pos (show (tkR (some n)).2 = 0 by rfl), e3, e, e2, if_neg c]) (Ev.now _))), by clear e e2 e3; omega, fun m hm _ => Option.some.inj hm⟩
theorem decode_tot (leaf : Bool) (s : ByteArray) (hs : s.size ≤ 2000) : ∃ r, Ev (fun k => node_Decode.f k leaf s) r ∧ Dec leaf s r := by
  obtain ⟨n, hn, hle, _⟩ := cnt_ev s hs
  obtain ⟨r, hr, hd⟩ := dec_tot leaf s n hs hle n 0 [] (by omega) rfl (fun c hc => absurd hc (by simp))
  exact ⟨r, Ev.congr (fun k => by rw [node_Decode.f]) (Ev.bind hn hr), hd⟩
end Go.Proofs.Ytjbkkmgkckopdaa.Pure
