import Derived.Test.YtjbkkmgkckopdaaSeek
import Derived.Test.YtjbkkmgkckopdaaPureNodeEncodes
namespace Go.Proofs.Ytjbkkmgkckopdaa.Pure
open Go.RowKit Go.Proofs.Ytjbkkmgkckopdaa.PN Go.Proofs.YtjbkkmgkckopdaaW.PrintWords Go.Proofs.YtjbkkmgkckopdaaW.PrintLast
set_option linter.unusedVariables false
set_option linter.unusedSimpArgs false

theorem cmpI_pos : ∀ (a b : List UInt8), b < a → 0 < cmpI a b
  | a, [], h => by cases a with
    | nil => exact absurd h (by simp)
    | cons x y => rw [cmpI]; decide
  | [], y :: ys, h => absurd h (by simp)
  | x :: xs, y :: ys, h => by
    rw [cmpI]
    rcases List.cons_lt_cons_iff.1 h with h1 | ⟨rfl, h2⟩
    · rw [if_neg (fun hh => by exact absurd (UInt8.lt_trans h1 hh) (UInt8.lt_irrefl _)), if_pos h1]; decide
    · rw [if_neg (UInt8.lt_irrefl _), if_neg (UInt8.lt_irrefl _)]
      exact cmpI_pos xs ys h2
theorem cmpI_self : ∀ (a : List UInt8), cmpI a a = 0
  | [] => rfl
  | x :: xs => by rw [cmpI, if_neg (UInt8.lt_irrefl _), if_neg (UInt8.lt_irrefl _)]; exact cmpI_self xs
theorem cmpI_zero : ∀ (a b : List UInt8), cmpI a b = 0 → a = b
  | [], [], _ => rfl
  | [], y :: ys, h => by rw [cmpI] at h; cases h
  | x :: xs, [], h => by rw [cmpI] at h; cases h
  | x :: xs, y :: ys, h => by
    rw [cmpI] at h
    by_cases h1 : x < y
    · rw [if_pos h1] at h; cases h
    · by_cases h2 : y < x
      · rw [if_neg h1, if_pos h2] at h; cases h
      · rw [if_neg h1, if_neg h2] at h
        have e : x = y := UInt8.le_antisymm (UInt8.not_lt.1 h2) (UInt8.not_lt.1 h1)
        rw [e, cmpI_zero xs ys h]
/-- What the three comparisons of the law come to. -/
theorem parts_law {l : List S35} (hr : rightB true l = true) (ky : ByteArray) (c : Nat) (hc : cut (notLess l ky) l.length c) (ex : Bool) (hex : ex = true ↔ ∃ h : c < l.length, l[c].f0.toList = ky.toList) (i : Nat) (hi : i < l.length) :
    (i < c → cmpI l[i].f0.data.toList ky.data.toList < 0) ∧ (c < i → 0 < cmpI l[i].f0.data.toList ky.data.toList) ∧ (i = c → (cmpI l[i].f0.data.toList ky.data.toList == 0) = ex) := by
  refine ⟨fun h => ?_, fun h => ?_, fun h => ?_⟩
  · have := hc.2.1 i h
    rw [notLess_at _ _ _ hi, bless, Bool.not_eq_false', tb_iff] at this
    exact (cmpI_lt _ _).2 this
  · have h1 := hc.2.2 c (Nat.le_refl _) (by omega)
    rw [notLess_at _ _ _ (by omega), bless, Bool.not_eq_true', Bool.eq_false_iff, Ne, tb_iff] at h1
    have h2 := keys_lt' hr c i h hi
    refine cmpI_pos _ _ ?_
    rcases Decidable.em (ky.data.toList = key (l[c]'(by omega))) with e | e
    · rw [e]; exact h2
    · refine List.lt_trans ?_ h2
      by_cases h3 : ky.data.toList < key (l[c]'(by omega))
      · exact h3
      · exact absurd (List.le_antisymm (List.not_lt.1 h1) (List.not_lt.1 h3)) e
  · subst h
    rw [Bool.eq_iff_iff, hex, beq_iff_eq]
    simp only [ByteArray.toList_eq]
    exact ⟨fun h => ⟨hi, cmpI_zero _ _ h⟩, fun ⟨_, h⟩ => by rw [h]; exact cmpI_self _⟩

set_option maxHeartbeats 8000000 in
set_option maxRecDepth 1000000 in
theorem parts_calls (l : List S35) (hl : l.length ≤ 9223372036854775807) (A1 : Option Addr) (c1 : Nat) (ky : ByteArray) (w : World) (hC : Kd.C k35 w A1 l.length l) (hc1 : l.length ≤ c1) :
    Calls Try.prog 5 #[.slice A1 l.length c1, .string ky] w fun e w' => e = .returned (.bool true) ∧ Below w.heap.size w w' := by
  have hu35 := Try.underlying35
  obtain ⟨ka, hka⟩ := Ev.rounds awake_ev
  obtain ⟨b, hb1, hb2⟩ := long_ev l hl
  obtain ⟨kl, hkl⟩ := Ev.rounds hb1
  have HA := Aside0.mk hka
  have HL := Aside0.mk hkl
  have HR1 := Aside0.mk hC
  have HC1 := Aside0.mk hc1
  clear hka hkl hb1 hC hc1
  cases b with
  | true =>
    clear hb2
    go_enter Try.func5, Try.ntmps5
    go_wp2_with fail
    refine (rollbooklaw06_awake.calls ka true _ HA.out).mono ?_
    rintro e w1 ⟨rfl, hb⟩
    have HB := Aside0.mk hb
    clear hb
    go_wp2_with fail
    refine (rollbooklaw06_long.calls kl _ _ l true _ (Kd.C_below HR1.out HB.out) HC1.out HL.out).mono ?_
    rintro e w2 ⟨rfl, ⟨nd, rfl⟩⟩
    go_wp2_with fail
    go_ret
    exact ⟨rfl, pw_below_drewN HB.out _⟩
  | false =>
    obtain ⟨hn, hs⟩ := hb2 rfl
    by_cases hk : ky.size > 2000
    · have hkb : decide ((2000 : Int) < (ky.size : Int)) = true := decide_eq_true (by omega)
      have hkc : (2000 : Int) < (ky.size : Int) := by omega
      go_enter Try.func5, Try.ntmps5
      go_wp2_with fail
      refine (rollbooklaw06_awake.calls ka true _ HA.out).mono ?_
      rintro e w1 ⟨rfl, hb⟩
      have HB := Aside0.mk hb
      clear hb
      go_wp2_with fail
      refine (rollbooklaw06_long.calls kl _ _ l false _ (Kd.C_below HR1.out HB.out) HC1.out HL.out).mono ?_
      rintro e w2 ⟨rfl, ⟨nd, rfl⟩⟩
      go_wp2_with fail
      go_ret
      exact ⟨rfl, pw_below_drewN HB.out _⟩
    · have hkb : decide ((2000 : Int) < (ky.size : Int)) = false := decide_eq_false (by omega)
      have hkc : ¬ (2000 : Int) < (ky.size : Int) := by omega
      obtain ⟨ke, hke⟩ := Ev.rounds (enc_ev true l (by omega) hs)
      by_cases hgood : rightB true l = true ∧ tot true l ≤ 488
      · rw [encR_ok hgood.1 hgood.2] at hke
        have HE := Aside0.mk hke
        have SK := Aside0.mk (seek_calls true l hgood.1 hgood.2 ky)
        have PL := Aside0.mk (fun c hc ex hex => parts_law hgood.1 ky c hc ex hex)
        have LE := Aside0.mk (fun i (hi : i < l.length) => Ev.rounds (less_ev l[i].f0 ky (hs _ (List.getElem_mem hi)).1 (by omega)))
        clear hke
        generalize ba (encL true l) = s at HE SK
        go_enter Try.func5, Try.ntmps5
        go_wp2_with fail
        refine (rollbooklaw06_awake.calls ka true _ HA.out).mono ?_
        rintro e w1 ⟨rfl, hb⟩
        have HB := Aside0.mk hb
        clear hb
        go_wp2_with fail
        refine (rollbooklaw06_long.calls kl _ _ l false _ (Kd.C_below HR1.out HB.out) HC1.out HL.out).mono ?_
        rintro e w2 ⟨rfl, ⟨nd, rfl⟩⟩
        go_wp2_with fail
        refine (node_Encode.calls ke true _ _ l s 0 _ (Kd.C_below HR1.out (pw_below_drewN HB.out _)) HC1.out HE.out).mono ?_
        rintro e w3 ⟨rfl, hb⟩
        have HB3 := Aside0.mk (below_step (pw_below_drewN HB.out nd) hb)
        clear hb HB
        go_wp2_with fail
        refine (SK.out _).mono ?_
        rintro e w4 ⟨c, at_, x, ex, rfl, hb, hcut, hex, hat, _, hxx⟩
        clear hxx
        obtain rfl : at_ = (c : Int) := by simpa using hat
        have HB4 := Aside0.mk (below_step HB3.out hb)
        have PLc := Aside0.mk (PL.out c hcut ex hex)
        have CU := Aside0.mk hcut.1
        have XC := Aside0.mk (fun h => (hex.1 h).1)
        clear hb HB3 hcut hex hat
        go_wp2_with fail
        go_loopg [10] l.length (fun kx v10 wr => ∃ i : Nat, v10 = .int .i64 i ∧ i ≤ l.length ∧ l.length - i ≤ kx ∧ Below w.heap.size w wr)
        case atStart => exact ⟨0, rfl, Nat.zero_le _, by omega, below_alloc HB4.out _⟩
        case round =>
          clear HB4
          obtain ⟨i, rfl, hin, hm, hb⟩ := hrel
          have HB5 := Aside0.mk hb
          clear hb
          by_cases hlt : i < l.length
          · obtain ⟨p1, p2, p3⟩ := PLc.out i hlt
            obtain ⟨kk, hkk⟩ := LE.out i hlt
            obtain ⟨ad, eA, hx0, hx1, hx2, hx3, hx4⟩ := at_T35 (Kd.C_below HR1.out HB5.out) (i : Int) (by omega) (by omega)
            rw [rd_nat l i hlt, Int.toNat_natCast] at hx0
            clear hx1 hx2 hx3 hx4
            generalize l[i].f0 = ki at hx0 hkk p1 p2 p3
            generalize cmpI ki.data.toList ky.data.toList = nn at hkk p1 p2 p3
            have HK := Aside0.mk hkk
            clear hkk
            have hlt' : (i : Int) < (l.length : Int) := by omega
            have h0 : (0 : Int) ≤ (i : Int) := by omega
            cases eA
            have P1 := Aside0.mk p1
            have P2 := Aside0.mk p2
            have P3 := Aside0.mk p3
            clear p1 p2 p3
            go_wp2_with fail
            refine (rollbookref01_Less.calls kk _ _ nn _ HK.out).mono ?_
            rintro e w6 ⟨rfl, ⟨nd6, rfl⟩⟩
            rcases Nat.lt_trichotomy i c with h | h | h
            · have q := P1.out h
              have a1 : (i : Int) < (c : Int) := by omega
              have a2 : ¬ (c : Int) < (i : Int) := by omega
              have a3 : ¬ (0 : Int) ≤ nn := by omega
              have a4 : ((i : Int) == (c : Int)) = false := beq_eq_false_iff_ne.mpr (by omega)
              have a5 : ¬ c < i := by omega
              have a6 : (i == c) = false := beq_eq_false_iff_ne.mpr (by omega)
              go_wp2
              go_roundg (l.length - (i + 1))
              case measure => omega
              case rel => exact ⟨i + 1, rfl, by omega, Nat.le_refl _, pw_below_drewN HB5.out _⟩
            · have q := P3.out h
              subst q
              subst h
              have a1 : ¬ (i : Int) < (i : Int) := by omega
              have a4 : ((i : Int) == (i : Int)) = true := beq_iff_eq.mpr rfl
              go_wp2
              go_roundg (l.length - (i + 1))
              case measure => omega
              case rel => exact ⟨i + 1, rfl, by omega, Nat.le_refl _, pw_below_drewN HB5.out _⟩
            · have q := P2.out h
              have a1 : ¬ (i : Int) < (c : Int) := by omega
              have a2 : (c : Int) < (i : Int) := by omega
              have a3 : ¬ nn ≤ (0 : Int) := by omega
              have a4 : ((i : Int) == (c : Int)) = false := beq_eq_false_iff_ne.mpr (by omega)
              have a5 : ¬ i < c := by omega
              have a6 : (i == c) = false := beq_eq_false_iff_ne.mpr (by omega)
              go_wp2
              go_roundg (l.length - (i + 1))
              case measure => omega
              case rel => exact ⟨i + 1, rfl, by omega, Nat.le_refl _, pw_below_drewN HB5.out _⟩
          · have hlt' : ¬ (i : Int) < (l.length : Int) := by omega
            have hcn := CU.out
            have b1 : (c : Int) ≤ (l.length : Int) := by omega
            have b2 : decide ((c : Int) ≤ (l.length : Int)) = true := decide_eq_true b1
            by_cases hcl : c < l.length
            · have b3 : (c : Int) < (l.length : Int) := by omega
              have b4 : decide ((c : Int) < (l.length : Int)) = true := decide_eq_true b3
              go_wp2
              go_ret
              exact ⟨rfl, HB5.out⟩
            · have b3 : ¬ (c : Int) < (l.length : Int) := by omega
              have b4 : decide ((c : Int) < (l.length : Int)) = false := decide_eq_false b3
              have hex : ex = false := by
                cases ex with
                | false => rfl
                | true => exact absurd (XC.out rfl) hcl
              subst hex
              go_wp2
              go_ret
              exact ⟨rfl, HB5.out⟩
      · have hq : ∃ r : ByteArray × Int, node_Encode.f ke true l = some (r.1, r.2) ∧ r.2 ≠ 0 := by
          refine ⟨encR true l, hke, fun h0 => hgood ?_⟩
          unfold encR at h0
          by_cases h1 : rightB true l = true
          · rw [if_pos h1] at h0
            by_cases h2 : tot true l > 488
            · rw [if_pos h2] at h0; cases h0
            · exact ⟨h1, by omega⟩
          · rw [if_neg h1] at h0; cases h0
        obtain ⟨⟨r1, r2⟩, hr1, hr2⟩ := hq
        have HE := Aside0.mk hr1
        clear hke hr1
        have b1 : (r2 != 0) = true := bne_iff_ne.mpr hr2
        have b2 : (r2 == 0) = false := beq_eq_false_iff_ne.mpr hr2
        go_enter Try.func5, Try.ntmps5
        go_wp2_with fail
        refine (rollbooklaw06_awake.calls ka true _ HA.out).mono ?_
        rintro e w1 ⟨rfl, hb⟩
        have HB := Aside0.mk hb
        clear hb
        go_wp2_with fail
        refine (rollbooklaw06_long.calls kl _ _ l false _ (Kd.C_below HR1.out HB.out) HC1.out HL.out).mono ?_
        rintro e w2 ⟨rfl, ⟨nd, rfl⟩⟩
        go_wp2_with fail
        refine (node_Encode.calls ke true _ _ l r1 r2 _ (Kd.C_below HR1.out (pw_below_drewN HB.out _)) HC1.out HE.out).mono ?_
        rintro e w3 ⟨rfl, hb⟩
        have HB3 := Aside0.mk (below_step (pw_below_drewN HB.out nd) hb)
        clear hb HB
        go_wp2_with fail
        go_ret
        exact ⟨rfl, HB3.out⟩
end Go.Proofs.Ytjbkkmgkckopdaa.Pure
