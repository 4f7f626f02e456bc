/- The readers' second law (ReadersGuard), walked; a list of acts that came in, read. -/
import Derived.Test.YtjbkkmgkckopdaaAwk
import Derived.Deep.Slices
import Derived.Deep.Fields
import Derived.OpenShut
namespace Go.Proofs.Ytjbkkmgkckopdaa.Rd
open Go.RowKit Go.Proofs.YtjbkkmgkckopdaaW.PrintWords Go.Proofs.YtjbkkmgkckopdaaW.PrintLast Go.Proofs.YtjbkkmgkckopdaaW.PrintMore
set_option linter.unusedVariables false
set_option linter.unusedSimpArgs false
/-- A list of pairs of ints lies behind a slice's address. -/
def ActsAt (w : World) (A : Option Addr) (l : List (Int × Int)) : Prop :=
  ∀ i, (h : i < l.length) → ∃ ad : Addr, A = some ad ∧ w.cell? (ad.add (i * 2)) = some (.int .i64 l[i].1) ∧ w.cell? ⟨(ad.add (i * 2)).block, (ad.add (i * 2)).off + 1, none⟩ = some (.int .i64 l[i].2)
theorem ActsAt.below {w w' : World} {A : Option Addr} {l : List (Int × Int)} (h : ActsAt w A l) (hb : Below w.heap.size w w') : ActsAt w' A l := fun i hi => by
  obtain ⟨ad, e, h0, h1⟩ := h i hi
  exact ⟨ad, e, pw_cell_below hb h0, pw_cell_below hb h1⟩
def EndPost (v : Value) (w : World) (e : Ending) (w' : World) : Prop := e = .returned v ∧ Below w.heap.size w w'
set_option maxHeartbeats 8000000 in
set_option maxRecDepth 1000000 in
theorem guard_calls (A : Option Addr) (c : Nat) (l : List (Int × Int)) (x now : Int) (w : World) (hl : l.length ≤ 9223372036854775807) (hc : l.length ≤ c) (ha : ActsAt w A l) :
    Calls Try.prog 6 #[.slice A l.length c, .int .i64 x, .int .i64 now] w (YesPost w) := by
  have HA := Aside0.mk ha
  clear ha
  go_enter Try.func6, Try.ntmps6
  go_wp2_with fail
  refine (awake_calls _).mono ?_
  rintro e w1 ⟨rfl, hb⟩
  have HB1 := Aside0.mk hb
  clear hb
  go_wp2_with fail
  refine (new_calls _).mono ?_
  rintro e w2 ⟨rfl, ht, hb⟩
  have HB := Aside0.mk (below_step HB1.out hb)
  have HT := Aside0.mk (show Tb w2 w1.heap.size T.free from ht)
  have HG := Aside0.mk HB1.out.size
  clear hb ht HB1
  generalize w1.heap.size = g at HT HG
  go_wp2_with fail
  go_loopg [8] (l.length) (fun kx v8 wr => ∃ (i : Nat) (t : T), v8 = .int .i64 i ∧ i ≤ l.length ∧ i ≤ 60 ∧ l.length - i ≤ kx ∧ Aside0 (Tb wr g t) ∧ Aside0 (Below w.heap.size w wr))
  case atStart => exact ⟨0, T.free, rfl, Nat.zero_le _, by omega, by omega, HT, HB⟩
  case round =>
    clear HT HB
    obtain ⟨i, t, rfl, hil, hi60, hik, HT, HB⟩ := hrel
    by_cases hgo : i < l.length ∧ i < 60
    · obtain ⟨h1, h2⟩ := hgo
      have a1 : (i : Int) < (l.length : Int) := by omega
      have a2 : (i : Int) < 60 := by omega
      have b1 : decide ((i : Int) < (l.length : Int)) = true := decide_eq_true a1
      have b2 : decide ((i : Int) < 60) = true := decide_eq_true a2
      obtain ⟨ad, rfl, c0, c1⟩ := (HA.out.below HB.out) i h1
      generalize l[i].1 = kind at c0
      generalize l[i].2 = y at c1
      by_cases k1 : kind = 1
      · subst k1
        go_wp2_with fail
        refine (enter_calls' g t y _ HT.out).mono ?_
        rintro e w3 ⟨rfl, ht, ho⟩
        have HB3 := Aside0.mk (below_only HB.out ho HG.out HB.out.size)
        have HT3 := Aside0.mk ht
        clear ht ho HT HB
        generalize t.enter y = r at HT3
        go_wp2_with fail
        go_roundg (l.length - (i + 1))
        case measure => omega
        case rel => exact ⟨i + 1, _, rfl, by omega, by omega, Nat.le_refl _, HT3, HB3⟩
      · have e1 : (kind == 1) = false := beq_eq_false_iff_ne.mpr k1
        by_cases k2 : kind = 2
        · subst k2
          go_wp2_with fail
          refine (leave_calls' g t y _ HT.out).mono ?_
          rintro e w3 ⟨rfl, ht, ho⟩
          have HB3 := Aside0.mk (below_only HB.out ho HG.out HB.out.size)
          have HT3 := Aside0.mk ht
          clear ht ho HT HB
          generalize t.leave y = r at HT3
          go_wp2_with fail
          go_roundg (l.length - (i + 1))
          case measure => omega
          case rel => exact ⟨i + 1, _, rfl, by omega, by omega, Nat.le_refl _, HT3, HB3⟩
        · have e2 : (kind == 2) = false := beq_eq_false_iff_ne.mpr k2
          go_wp2_with fail
          go_roundg (l.length - (i + 1))
          case measure => omega
          case rel => exact ⟨i + 1, t, rfl, by omega, by omega, Nat.le_refl _, HT, HB⟩
    · have b3 : ((i : Int) < (l.length : Int) ∧ decide ((i : Int) < (l.length : Int)) = true ∧ ¬ (i : Int) < 60 ∧ decide ((i : Int) < 60) = false) ∨ (¬ (i : Int) < (l.length : Int) ∧ decide ((i : Int) < (l.length : Int)) = false) := by
        by_cases h1 : i < l.length
        · exact .inl ⟨by omega, decide_eq_true (by omega), by omega, decide_eq_false (by omega)⟩
        · exact .inr ⟨by omega, decide_eq_false (by omega)⟩
      have GF := Aside0.mk (fun h => guard_full (t := t) (x := x) h)
      have GL := Aside0.mk (fun h => guard_law (t := t) (x := x) now h)
      rcases b3 with ⟨a1, b1, a2, b2⟩ | ⟨a1, b1⟩
      all_goals
        go_wp2_with fail
        refine (oldest_calls g t now _ HT.out).mono ?_
        rintro e w3 ⟨rfl, hb⟩
        have HB3 := Aside0.mk (below_step HB.out hb)
        have HT3 := Aside0.mk (tb_below HT.out hb)
        clear hb HT HB
        generalize hwas : t.oldest now = was at GL
        have HW := Aside0.mk hwas
        clear hwas
        go_wp2_with fail
        refine (enter_calls' g t x _ HT3.out).mono ?_
        rintro e w4 ⟨rfl, ht, ho⟩
        have HB4 := Aside0.mk (below_only HB3.out ho HG.out HB3.out.size)
        have HT4 := Aside0.mk ht
        clear ht ho HT3 HB3
        generalize t.enter x = r at HT4 GF GL
        obtain ⟨t', s, er⟩ := r
        by_cases he : er = 0
        · subst he
          obtain ⟨g1, g2, g3, g4⟩ := GL.out rfl
          have G1 := Aside0.mk g1
          have G2 := Aside0.mk g2
          have G3 := Aside0.mk g3
          have G4 := Aside0.mk g4
          clear g1 g2 g3 g4 GL GF
          go_wp2_with fail
          refine (oldest_calls g t' now _ HT4.out).mono ?_
          rintro e w5 ⟨he, hb⟩
          rw [show t'.oldest now = min was x from G1.out] at he
          subst he
          have HB5 := Aside0.mk (below_step HB4.out hb)
          have HT5 := Aside0.mk (tb_below HT4.out hb)
          clear hb HT4 HB4
          generalize hm : min was x = mm
          have HM := Aside0.mk hm
          clear hm
          have q : (x < was ∧ mm = x) ∨ (¬ x < was ∧ mm = was) := by have := HM.out; omega
          rcases q with ⟨q1, rfl⟩ | ⟨q1, rfl⟩
          all_goals
            go_wp2_with fail
            refine (leave_calls' g t' s _ HT5.out).mono ?_
            rintro e w6 ⟨he, ht, ho⟩
            rw [show (t'.leave s).2 = 0 from G2.out] at he
            subst he
            have HB6 := Aside0.mk (below_only HB5.out ho HG.out HB5.out.size)
            have HT6 := Aside0.mk ht
            clear ht ho
            go_wp2_with fail
            refine (oldest_calls g _ now _ HT6.out).mono ?_
            rintro e w7 ⟨he, hb⟩
            rw [show (t'.leave s).1.oldest now = _ from G3.out] at he
            subst he
            have HB7 := Aside0.mk (below_step HB6.out hb)
            have HT7 := Aside0.mk (tb_below HT6.out hb)
            clear hb
            go_wp2_with fail
            refine (leave_calls' g _ s _ HT7.out).mono ?_
            rintro e w8 ⟨he, ht, ho⟩
            rw [show ((t'.leave s).1.leave s).2 = 7 from G4.out] at he
            subst he
            have HB8 := Aside0.mk (below_only HB7.out ho HG.out HB7.out.size)
            clear ht ho
            go_wp2_with fail
            go_ret
            exact ⟨rfl, HB8.out⟩
        · have e1 : (er != 0) = true := bne_iff_ne.mpr he
          have GE := Aside0.mk (show t' = t from GF.out he)
          go_wp2_with fail
          refine (oldest_calls g t' now _ HT4.out).mono ?_
          rintro e w5 ⟨he, hb⟩
          rw [show t'.oldest now = was by rw [GE.out]; exact HW.out] at he
          subst he
          have HB5 := Aside0.mk (below_step HB4.out hb)
          clear hb
          go_wp2_with fail
          go_ret
          exact ⟨rfl, HB5.out⟩
end Go.Proofs.Ytjbkkmgkckopdaa.Rd
