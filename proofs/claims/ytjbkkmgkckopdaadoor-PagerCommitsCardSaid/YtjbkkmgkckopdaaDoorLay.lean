/- Numbers laid behind a text, one by one; one of a text; a text filled with noughts. -/
import Derived.Test.YtjbkkmgkckopdaaDoorTake
import Derived.Test.YtjbkkmgkckopdaaDoorRep
namespace Go.Proofs.YtjbkkmgkckopdaaDoor.Pg
open Go.RowKit Go.Proofs.YtjbkkmgkckopdaaDoorW.PrintWords Go.Proofs.YtjbkkmgkckopdaaDoorW.PrintLast Go.Proofs.YtjbkkmgkckopdaaDoorW.PrintMore Go.Proofs.YtjbkkmgkckopdaaDoor.Num Go.Proofs.YtjbkkmgkckopdaaDoor.Mem
set_option linter.unusedVariables false
set_option linter.unusedSimpArgs false
def i64v (n : Nat) : Int := if n < 9223372036854775808 then (n : Int) else (n : Int) - 18446744073709551616
theorem wrap_i64v (n : Nat) (h : n < 18446744073709551616) : IntKind.i64.wrap (n : Int) = i64v n := by
  rw [IntKind.wrap_i64]
  unfold i64v
  split <;> omega
theorem val_u64 (l : List UInt8) (sz : Nat) (h8 : sz ≤ 8) : val (l.take sz) < 18446744073709551616 := by
  refine Nat.lt_of_lt_of_le (val_lt _) (Nat.le_trans (Nat.pow_le_pow_right (by omega) (?_ : _ ≤ 8)) (by decide))
  rw [List.length_take]; omega
set_option maxHeartbeats 2000000 in
set_option maxRecDepth 100000 in
theorem at_calls (s : ByteArray) (i sz : Nat) (h1 : 1 ≤ sz) (h8 : sz ≤ 8) (hi : i + sz ≤ s.size) (hs : s.size ≤ 1099511627776) (w : World) :
    Calls Tryd.prog 47 #[.string s, .int .i64 (i : Int), .int .i64 (sz : Int)] w fun e w' => e = .returned (.int .i64 (i64v (val ((s.data.toList.drop i).take sz)))) ∧ Below w.heap.size w w' := by
  have HT := Aside0.mk (take_calls s i sz h1 h8 hi hs w)
  have hw := wrap_i64v _ (val_u64 (s.data.toList.drop i) sz h8)
  generalize val ((s.data.toList.drop i).take sz) = n at *
  go_enter Tryd.func47, Tryd.ntmps47
  go_wp2_with fail
  refine HT.out.mono ?_
  rintro e w1 ⟨rfl, hb⟩
  have HB := Aside0.mk hb
  clear hb
  go_wp2_with fail
  go_ret
  exact ⟨rfl, HB.out⟩
/-- The cells of numbers with their sizes. -/
def pairs (l : List (Nat × Nat)) : List Value := l.flatMap fun p => [.int .i64 (p.1 : Int), .int .i64 (p.2 : Int)]
def laid (l : List (Nat × Nat)) : List UInt8 := l.flatMap fun p => be p.2 p.1
theorem laid_snoc (a : List (Nat × Nat)) (p : Nat × Nat) : laid (a ++ [p]) = laid a ++ be p.2 p.1 := by simp [laid]
theorem pairs_at : ∀ (l : List (Nat × Nat)) (k : Nat) (h : k < l.length), (pairs l)[2 * k]? = some (.int .i64 (l[k].1 : Int)) ∧ (pairs l)[2 * k + 1]? = some (.int .i64 (l[k].2 : Int))
  | [], k, h => by cases h
  | p :: l, 0, h => by simp [pairs]
  | p :: l, k + 1, h => by
    obtain ⟨h1, h2⟩ := pairs_at l k (by simpa using h)
    unfold pairs at h1 h2 ⊢
    refine ⟨?_, ?_⟩
    · rw [show 2 * (k + 1) = 2 * k + 1 + 1 by omega]
      simpa using h1
    · rw [show 2 * (k + 1) + 1 = 2 * k + 1 + 1 + 1 by omega]
      simpa using h2
set_option maxHeartbeats 2000000 in
set_option maxRecDepth 100000 in
theorem lay_calls (s : ByteArray) (l : List (Nat × Nat)) (hl : ∀ p ∈ l, 1 ≤ p.2 ∧ p.2 ≤ 8 ∧ p.1 < 256 ^ p.2 ∧ p.1 < 9223372036854775808) (hn : l.length ≤ 100) (hs : s.size ≤ 1000) (g c : Nat) (w : World) (hg : w.heap[g]? = some (.cells (pairs l).toArray 95 (0, 0))) :
    Calls Tryd.prog 43 #[.string s, .slice (some ⟨g, 0, none⟩) l.length c] w fun e w' => e = .returned (.string (s ++ ba (laid l))) ∧ Below w.heap.size w w' := by
  have HG := Aside0.mk hg
  have HP := Aside0.mk (fun (k : Nat) (h : k < l.length) (s : ByteArray) (hs : s.size ≤ 10000) (W : World) => put_calls s l[k].1 l[k].2 (hl _ (List.getElem_mem h)).1 (hl _ (List.getElem_mem h)).2.1 (hl _ (List.getElem_mem h)).2.2.1 (by omega) W)
  have HW := Aside0.mk (fun (k : Nat) (h : k < l.length) => (hl _ (List.getElem_mem h)))
  clear hg hl
  go_enter Tryd.func43, Tryd.ntmps43
  go_wp2_with fail
  go_loopg [0, 6, 9] l.length (fun kx v0 v6 v9 wr => ∃ (k : Nat) (t : ByteArray), v0 = .string t ∧ v9 = .int .i64 (k : Int) ∧ k ≤ l.length ∧ l.length - k ≤ kx ∧ Aside0 (t = s ++ ba (laid (l.take k)) ∧ t.size ≤ 1000 + 8 * k) ∧ Aside0 (Below w.heap.size w wr))
  case atStart => exact ⟨0, s, rfl, rfl, Nat.zero_le _, by omega, ⟨by rw [List.take_zero]; exact (ByteArray.append_empty).symm, by omega⟩, ⟨Below.refl _ _⟩⟩
  case round =>
    obtain ⟨k, t, rfl, rfl, hk, hkx, HT, HB⟩ := hrel
    by_cases hgo : k < l.length
    · have a1 : (k : Int) < (l.length : Int) := by omega
      have a2 : (0 : Int) ≤ (k : Int) := by omega
      have hgr := blk_below HG.out HB.out
      obtain ⟨p1, p2⟩ := pairs_at l k hgo
      have c1 : wr.cell? ⟨g, k * 2, none⟩ = some (.int .i64 (l[k].1 : Int)) := by rw [blk_cell hgr, List.getElem?_toArray, Nat.mul_comm]; exact p1
      have c2 : wr.cell? ⟨g, k * 2 + 1, none⟩ = some (.int .i64 (l[k].2 : Int)) := by rw [blk_cell hgr, List.getElem?_toArray, Nat.mul_comm]; exact p2
      clear p1 p2
      have hu : IntKind.u64.wrap (l[k].1 : Int) = (l[k].1 : Int) := u64 (by omega) (by have := (HW.out k hgo).2.2.2; omega)
      have HPk := Aside0.mk (HP.out k hgo t (by have := HT.out.2; omega) (wr.alloc (.cells #[.int .i64 (l[k].1 : Int), .int .i64 (l[k].2 : Int)] 95)))
      have HT2 : t ++ ba (be l[k].2 l[k].1) = s ++ ba (laid (l.take (k + 1))) ∧ (t ++ ba (be l[k].2 l[k].1)).size ≤ 1000 + 8 * (k + 1) := by
        refine ⟨?_, ?_⟩
        · rw [HT.out.1, List.take_succ_eq_append_getElem hgo, laid_snoc, ByteArray.append_assoc, ba_append]
        · have := HT.out.2
          have := (HW.out k hgo).2.1
          rw [ByteArray.size_append, ba_size, be_length]
          omega
      have HT3 := Aside0.mk HT2
      have hsz : t.size + (ba (be l[k].2 l[k].1)).size ≤ 9223372036854775807 := by have := HT2.2; rw [ByteArray.size_append] at this; omega
      clear HT HT2
      generalize be l[k].2 l[k].1 = bb at *
      have HB2 := Aside0.mk (below_alloc HB.out (.cells #[.int .i64 (l[k].1 : Int), .int .i64 (l[k].2 : Int)] 95))
      generalize l[k].1 = m1 at *
      generalize l[k].2 = m2 at *
      clear HB
      go_wp2_with fail
      refine HPk.out.mono ?_
      rintro e w2 ⟨rfl, hb⟩
      have HB3 := Aside0.mk (below_step HB2.out hb)
      clear hb
      go_wp2_with fail
      go_roundg (l.length - (k + 1))
      case measure => omega
      case rel => exact ⟨k + 1, _, rfl, by simp, by omega, Nat.le_refl _, HT3, HB3⟩
    · obtain rfl : k = l.length := by omega
      have HE := HT.out.1
      rw [List.take_length] at HE
      have HE2 := Aside0.mk HE
      clear HE HT
      go_wp2_with fail
      go_ret
      exact ⟨by rw [← HE2.out]; rfl, HB.out⟩
theorem filled_calls (s : ByteArray) (n : Nat) (hn : s.size ≤ n) (h : n ≤ 100000) (w : World) : Calls Tryd.prog 44 #[.string s, .int .i64 (n : Int)] w fun e w' => e = .returned (.string (s ++ ba (List.replicate (n - s.size) 0))) ∧ Below w.heap.size w w' := by
  have hz : ((⟨#[0]⟩ : ByteArray).size) = 1 := rfl
  have HR := Aside0.mk (Sh.strings_Repeat ⟨#[0]⟩ (n - s.size) w (by omega) (by rw [hz]; omega))
  have hr : (⟨(Lib.repeatL (⟨#[0]⟩ : ByteArray).data.toList (n - s.size)).toArray⟩ : ByteArray) = ba (List.replicate (n - s.size) 0) := by
    unfold ba
    congr 2
    generalize n - s.size = m
    induction m with
    | zero => rfl
    | succ m ih => simp only [Lib.repeatL, List.replicate_succ] at ih ⊢; simp_all
  rw [hr] at HR
  have hc : ((n - s.size : Nat) : Int) = (n : Int) - (s.size : Int) := by omega
  rw [hc] at HR
  have hw : IntKind.i64.wrap ((n : Int) - (s.size : Int)) = (n : Int) - (s.size : Int) := by rw [IntKind.wrap_i64]; omega
  have hsz : s.size + (ba (List.replicate (n - s.size) 0)).size ≤ 9223372036854775807 := by rw [ba_size, List.length_replicate]; omega
  clear hr hc
  generalize ba (List.replicate (n - s.size) 0) = z at *
  go_enter Tryd.func44, Tryd.ntmps44
  go_wp2_with fail
  refine HR.out.mono ?_
  rintro e w1 ⟨rfl, hb⟩
  have HB := Aside0.mk hb
  clear hb
  go_wp2_with fail
  go_ret
  exact ⟨rfl, HB.out⟩
end Go.Proofs.YtjbkkmgkckopdaaDoor.Pg
