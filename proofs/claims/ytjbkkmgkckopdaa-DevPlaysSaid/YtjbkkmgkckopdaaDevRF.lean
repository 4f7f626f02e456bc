/- The reference device: Start. -/
import Derived.Test.YtjbkkmgkckopdaaDevRE
namespace Go.Proofs.Ytjbkkmgkckopdaa.Dv
open Go.RowKit Go.Proofs.YtjbkkmgkckopdaaW.PrintWords Go.Proofs.YtjbkkmgkckopdaaW.PrintLast Go.Proofs.YtjbkkmgkckopdaaW.PrintMore Go.Proofs.Ytjbkkmgkckopdaa.Mem
set_option linter.unusedVariables false
set_option linter.unusedSimpArgs false
/-- How many sectors before i have writes. -/
def bef (w : Nat → List S) (i : Nat) : Nat := ((List.range' 0 i).filter (fun t => decide (w t ≠ []))).length
theorem bef_succ (w : Nat → List S) (i : Nat) : bef w (i + 1) = bef w i + (if w i = [] then 0 else 1) := by
  unfold bef
  rw [List.range'_1_concat, List.filter_append, List.length_append]
  congr 1
  by_cases h : w i = [] <;> simp [h]
theorem bef_le (w : Nat → List S) (i : Nat) : bef w i ≤ i := Nat.le_trans (List.length_filter_le _ _) (by simp)
/-- The sectors before i are done. -/
def Upto (picks : List Int) (w : Nat → List S) (l : List S) (i : Nat) (ls : List S) : Prop := ls.length = l.length ∧ ∀ j, ls[j]? = if j < i then (start picks w l 0 0)[j]? else l[j]?
theorem upto_start (picks : List Int) (w : Nat → List S) (l : List S) : Upto picks w l 0 l := ⟨rfl, fun j => by simp⟩
theorem upto_end {picks : List Int} {w : Nat → List S} {l ls : List S} (h : Upto picks w l l.length ls) : ls = start picks w l 0 0 := by
  apply List.ext_getElem?
  intro j
  rw [h.2 j]
  by_cases hj : j < l.length
  · rw [if_pos hj]
  · rw [if_neg hj, List.getElem?_eq_none (by omega), List.getElem?_eq_none (by rw [start_len]; omega)]
theorem start_at (picks : List Int) (w : Nat → List S) (l : List S) (i : Nat) (h : i < l.length) : (start picks w l 0 0)[i]? = some (if w i = [] then l[i] else kept picks (w i) (bef w i) l[i]) := by
  rw [start_get, List.getElem?_eq_getElem h]
  simp only [Option.map_some, Nat.zero_add]
  rfl
theorem upto_same {picks : List Int} {w : Nat → List S} {l ls : List S} {i : Nat} (h : Upto picks w l i ls) (hi : i < l.length) (hw : w i = []) : Upto picks w l (i + 1) ls := by
  refine ⟨h.1, fun j => ?_⟩
  rw [h.2 j]
  by_cases e : j = i
  · subst e
    rw [if_neg (Nat.lt_irrefl _), if_pos (Nat.lt_succ_self _), start_at _ _ _ _ hi, if_pos hw, List.getElem?_eq_getElem hi]
  · by_cases h2 : j < i
    · rw [if_pos h2, if_pos (by omega)]
    · rw [if_neg h2, if_neg (by omega)]
theorem upto_set {picks : List Int} {w : Nat → List S} {l ls : List S} {i : Nat} (h : Upto picks w l i ls) (hi : i < l.length) (hw : w i ≠ []) : Upto picks w l (i + 1) (ls.set i (kept picks (w i) (bef w i) l[i])) := by
  refine ⟨by rw [List.length_set]; exact h.1, fun j => ?_⟩
  by_cases e : j = i
  · subst e
    rw [List.getElem?_set_self (by have := h.1; omega), if_pos (Nat.lt_succ_self _), start_at _ _ _ _ hi, if_neg hw]
  · rw [List.getElem?_set_ne (fun e2 => e e2.symm), h.2 j]
    by_cases h2 : j < i
    · rw [if_pos h2, if_pos (by omega)]
    · rw [if_neg h2, if_neg (by omega)]
theorem upto_old {picks : List Int} {w : Nat → List S} {l ls : List S} {i : Nat} (h : Upto picks w l i ls) (hi : i < l.length) : ls[i]? = some l[i] := by
  rw [h.2 i, if_neg (Nat.lt_irrefl _), List.getElem?_eq_getElem hi]
/-- The a-th write to a sector is what is kept. -/
theorem lst_kept (row : List (Nat × S)) (i t a : Nat) (s : S) (ha : cnt (row.take t) i = a) : lst (row.take t) i s = if a = 0 then s else (of row i).getD (a - 1) s := by
  rw [lst_of]
  rw [cnt_of] at ha
  have hpre : of (row.take t) i = (of row i).take a := by
    have e : of row i = of (row.take t) i ++ of (row.drop t) i := by
      unfold of
      rw [← List.map_append, ← List.filter_append, List.take_append_drop]
    rw [e, List.take_left' ha]
  by_cases h0 : a = 0
  · rw [if_pos h0]
    have : of (row.take t) i = [] := List.eq_nil_of_length_eq_zero (by omega)
    rw [this]
    rfl
  · rw [if_neg h0, List.getLast?_eq_getElem?, ha, hpre, List.getElem?_take_of_lt (by omega), List.getD_eq_getElem?_getD]
/-- Whether a pick is to be taken. -/
def tst (picks : List Int) (j : Nat) : Bool := decide (0 < picks.length ∧ 0 < picks.getD (j % picks.length) 0)
theorem tst_none (picks : List Int) (j : Nat) (h : picks.length = 0) : tst picks j = false := decide_eq_false (by omega)
theorem tst_some (picks : List Int) (j : Nat) (h : ¬ picks.length = 0) : tst picks j = decide (0 < picks[j % picks.length]'(Nat.mod_lt _ (by omega))) := by
  have hr : j % picks.length < picks.length := Nat.mod_lt _ (by omega)
  unfold tst
  rw [List.getD_eq_getElem?_getD, List.getElem?_eq_getElem hr]
  simp only [Option.getD_some]
  by_cases h0 : 0 < picks[j % picks.length]
  · rw [decide_eq_true h0, decide_eq_true ⟨by omega, h0⟩]
  · rw [decide_eq_false h0, decide_eq_false (fun h2 => h0 h2.2)]
theorem tst_no {picks : List Int} {j : Nat} (h : tst picks j = false) (m : Nat) : pick picks j m = 0 := by
  have h1 : ¬ (0 < picks.length ∧ 0 < picks.getD (j % picks.length) 0) := of_decide_eq_false h
  unfold pick
  split
  · rfl
  · rw [show max 0 (picks.getD (j % picks.length) 0) = 0 by omega]
    simp
theorem tst_yes {picks : List Int} {j : Nat} (h : tst picks j = true) (m : Nat) : ∃ hp : ¬ picks.length = 0, 0 < picks[j % picks.length]'(Nat.mod_lt _ (by omega)) ∧ (pick picks j m : Int) = picks[j % picks.length]'(Nat.mod_lt _ (by omega)) % ((m : Int) + 1) := by
  obtain ⟨h1, h2⟩ := (of_decide_eq_true h : 0 < picks.length ∧ 0 < picks.getD (j % picks.length) 0)
  have hr : j % picks.length < picks.length := Nat.mod_lt _ (by omega)
  rw [List.getD_eq_getElem?_getD, List.getElem?_eq_getElem hr] at h2
  refine ⟨by omega, h2, ?_⟩
  unfold pick
  rw [if_neg (by omega), List.getD_eq_getElem?_getD, List.getElem?_eq_getElem hr]
  simp only [Option.getD_some] at h2 ⊢
  rw [← mod_nat, show max 0 picks[j % picks.length] = picks[j % picks.length] by omega]
set_option maxHeartbeats 4000000 in
set_option maxRecDepth 1000000 in
theorem estart_no (w : World) {ok : Nat → Prop} {g : Nat} {r : E} {y : ELay} (h : EAt w ok g r y) (pv : Value) (ho : r.off = false) : Calls Try.prog 105 #[.pointer (some ⟨g, 0, none⟩), pv] w (EDoes ok g r (.int .i64 10) w) := by
  have z2 := h.z2
  rw [ho] at z2
  have HD := Aside0.mk h
  clear ho h
  go_enter Try.func105, Try.ntmps105
  go_wp2_with fail
  go_ret
  exact EDoes.of rfl rfl rfl HD.out (Turn.refl _ _)
set_option maxHeartbeats 8000000 in
set_option maxRecDepth 1000000 in
theorem estart_yes (w : World) {ok : Nat → Prop} {g : Nat} {r : E} {y : ELay} (h : EAt w ok g r y) (p : Option Addr) (picks : List Int) (pc : Nat) (hp : Ints w ok p picks) (hpl : picks.length ≤ 9223372036854775807) (ho : r.off = true) :
    Calls Try.prog 105 #[.pointer (some ⟨g, 0, none⟩), .slice p picks.length pc] w (EDoes ok g { r with sector := Dv.start picks (of r.row) r.sector 0 0, row := [], off := false } (.int .i64 0) w) := by
  have z2 := h.z2
  rw [ho] at z2
  have okg := h.okg
  have okL := h.okL
  have hlen := h.len
  have hfew := h.few
  have HP := Aside0.mk hp
  have HO := Aside0.mk ho
  obtain ⟨q, qc, hv, _⟩ := h.form
  have HV := Aside0.mk hv
  have HE := Aside0.mk (show EAt w ok g { r with sector := r.sector } y from h)
  clear ho h hp hv
  go_enter Try.func105, Try.ntmps105
  go_wp2_with fail
  go_loopg [6, 5] (r.sector.length) (fun kx v6 v5 wr => ∃ (i : Nat) (ls : List S), v6 = .int .i64 i ∧ v5 = .int .i64 (bef (of r.row) i : Int) ∧ i ≤ r.sector.length ∧ r.sector.length - i ≤ kx ∧ Aside0 (EAt wr ok g { r with sector := ls } y) ∧ Aside0 (Upto picks (of r.row) r.sector i ls) ∧ Aside0 (Turn ok w wr))
  case atStart => exact ⟨0, r.sector, rfl, rfl, Nat.zero_le _, by omega, HE, Aside0.mk (upto_start _ _ _), Aside0.mk (Turn.refl _ _)⟩
  case round =>
    clear HE
    obtain ⟨i, ls, rfl, rfl, hi, hik, HE, HU, HT⟩ := hrel
    have hll : ls.length = r.sector.length := HU.out.1
    have z0 : wr.cell? ⟨g, 0, none⟩ = some (.slice (some ⟨y.L, 0, none⟩) r.sector.length y.cap) := by have := HE.out.z0; rw [show ({ r with sector := ls } : E).sector.length = r.sector.length from hll] at this; exact this
    have hbl := bef_le (of r.row) i
    by_cases hgo : i < r.sector.length
    · have a1 : (i : Int) < (r.sector.length : Int) := by omega
      have a2 : decide ((i : Int) < (r.sector.length : Int)) = true := decide_eq_true a1
      have a3 : (0 : Int) ≤ (i : Int) := by omega
      have w9 : IntKind.i64.wrap ((i : Int) + 1) = (i : Int) + 1 := by rw [IntKind.wrap_i64]; omega
      have HW := Aside0.mk (ewaits_calls wr HE.out (i : Int))
      rw [ewait_eq, cnt_of] at HW
      by_cases hw : of r.row i = []
      · rw [hw] at HW
        have HU2 := Aside0.mk (upto_same HU.out hgo hw)
        have hb2 := bef_succ (of r.row) i
        rw [if_pos hw] at hb2
        have HB2 := Aside0.mk hb2
        clear hb2 hw hgo HU
        go_wp2_with fail
        refine HW.out.mono ?_
        rintro e w1 ⟨rfl, rfl⟩
        go_wp2_with fail
        go_roundg (r.sector.length - (i + 1))
        case measure => omega
        case rel => exact ⟨i + 1, ls, rfl, by rw [HB2.out]; rfl, by omega, Nat.le_refl _, HE, HU2, HT⟩
      · have hcn := cnt_le r.row (i : Int)
        rw [cnt_of] at hcn
        have hpos := List.length_pos_iff.2 hw
        have HWn := Aside0.mk hw
        generalize hm : (of r.row i).length = m at HW hcn hpos
        have HM := Aside0.mk hm
        have c1 : ((m : Int) == 0) = false := beq_eq_false_iff_ne.mpr (by omega)
        have c2 : ¬ (m : Int) = 0 := by omega
        clear hm hw
        go_wp2_with fail
        refine HW.out.mono ?_
        rintro e w1 ⟨rfl, rfl⟩
        go_upto_region 10 with fail
        go_cut [41] (fun v41 wc => v41 = .bool (tst picks (bef (of r.row) i)) ∧ wc = wr)
        case first =>
          generalize bef (of r.row) i = j at *
          by_cases hp0 : picks.length = 0
          · have HK := Aside0.mk (tst_none picks j hp0)
            have b1 : ¬ (0 : Int) < (picks.length : Int) := by omega
            have b2 : decide ((0 : Int) < (picks.length : Int)) = false := decide_eq_false b1
            clear hp0
            go_wp2_with fail
            go_meet
            case rel => exact ⟨by rw [HK.out], rfl⟩
          · have hr : j % picks.length < picks.length := Nat.mod_lt _ (by omega)
            obtain ⟨a, rfl, cp, hna⟩ := (HP.out.turn HT.out) _ hr
            have b1 : (0 : Int) < (picks.length : Int) := by omega
            have b2 : decide ((0 : Int) < (picks.length : Int)) = true := decide_eq_true b1
            have HK := Aside0.mk (tst_some picks j hp0)
            generalize picks[j % picks.length] = pk at cp HK
            clear hp0
            by_cases h0 : 0 < pk
            · have e1 : decide (0 < pk) = true := decide_eq_true h0
              have HK2 := Aside0.mk (HK.out.trans e1)
              go_wp2_with fail
              go_meet
              case rel => exact ⟨by rw [HK2.out], rfl⟩
            · have e1 : decide (0 < pk) = false := decide_eq_false h0
              have HK2 := Aside0.mk (HK.out.trans e1)
              go_wp2_with fail
              go_meet
              case rel => exact ⟨by rw [HK2.out], rfl⟩
        case rest =>
          obtain ⟨hv8, hwc⟩ := hcut
          subst hv8
          subst hwc
          go_upto_if 41 with fail
          go_cut [8] (fun v8 wd => v8 = .int .i64 (pick picks (bef (of r.row) i) m : Int) ∧ wd = wc)
          case first =>
            generalize bef (of r.row) i = j at *
            have w8 : IntKind.i64.wrap ((m : Int) + 1) = (m : Int) + 1 := by rw [IntKind.wrap_i64]; omega
            have w7 : ¬ (m + 1 = 0) := by omega
            cases ht : tst picks j
            · have HK := Aside0.mk (tst_no ht m)
              clear ht
              go_wp2_with fail
              go_meet
              case rel => exact ⟨by rw [HK.out]; rfl, rfl⟩
            · obtain ⟨hp0, h0, hpk⟩ := tst_yes ht m
              have hr : j % picks.length < picks.length := Nat.mod_lt _ (by omega)
              obtain ⟨a, rfl, cp, hna⟩ := (HP.out.turn HT.out) _ hr
              have b1 : (0 : Int) < (picks.length : Int) := by omega
              have HK := Aside0.mk hpk
              generalize picks[j % picks.length] = pk at cp HK h0
              clear ht hp0 hpk
              go_wp2_with fail
              go_meet
              case rel => exact ⟨by rw [HK.out], rfl⟩
          case rest =>
          obtain ⟨hv8, hwd⟩ := hcut
          subst hv8
          subst hwd
          have hale : pick picks (bef (of r.row) i) m ≤ m := by
            unfold pick
            split
            · omega
            · have := Nat.mod_lt (max 0 (picks.getD (bef (of r.row) i % picks.length) 0)).toNat (show 0 < m + 1 by omega)
              omega
          have hold := upto_old HU.out hgo
          have HS0 := Aside0.mk (show ls = ls.set i r.sector[i] by
            rw [List.getElem?_eq_getElem (by omega)] at hold
            rw [← Option.some.inj hold, List.set_getElem_self])
          have HUs := Aside0.mk (upto_set HU.out hgo HWn.out)
          unfold kept at HUs
          rw [HM.out] at HUs
          have hb2 := bef_succ (of r.row) i
          rw [if_neg HWn.out] at hb2
          have HB2 := Aside0.mk hb2
          generalize hs : r.sector[i] = s0 at HS0 HUs
          generalize hpa : pick picks (bef (of r.row) i) m = pa at hale HUs
          have hm2 : cnt r.row (i : Int) = m := by rw [cnt_of]; exact HM.out
          have HM2 := Aside0.mk hm2
          have HEs := Aside0.mk (show EAt wc ok g { r with sector := ls.set i (lst (r.row.take 0) (i : Int) s0) } y by
            have h1 := HE.out
            rw [HS0.out] at h1
            exact h1)
          have w7 : IntKind.i64.wrap ((bef (of r.row) i : Int) + 1) = (bef (of r.row) i : Int) + 1 := by rw [IntKind.wrap_i64]; omega
          clear hb2 hm2 hold hs hpa HW HWn HM HU HE HS0 c1 c2
          go_wp2_with fail
          go_loopg [9, 8] (r.row.length) (fun kx v9 v8 wx => ∃ (t c : Nat), v9 = .int .i64 t ∧ v8 = .int .i64 c ∧ t ≤ r.row.length ∧ r.row.length - t ≤ kx ∧ Aside0 (cnt (r.row.take t) (i : Int) + c = pa) ∧ c ≤ 1000000 ∧ Aside0 (EAt wx ok g { r with sector := ls.set i (lst (r.row.take t) (i : Int) s0) } y) ∧ Aside0 (Turn ok w wx))
          case atStart => exact ⟨0, pa, rfl, rfl, Nat.zero_le _, by omega, Aside0.mk (by rw [List.take_zero]; simp [cnt]), by omega, HEs, HT⟩
          case round =>
            clear HEs HT
            obtain ⟨t, c, rfl, rfl, ht, htk, hcp, hc6, HE, HT⟩ := hrel
            have z1 := HE.out.z1
            rw [HV.out] at z1
            have z0 : wr.cell? ⟨g, 0, none⟩ = some (.slice (some ⟨y.L, 0, none⟩) r.sector.length y.cap) := by
              have := HE.out.z0
              rw [show ({ r with sector := ls.set i (lst (r.row.take t) (i : Int) s0) } : E).sector.length = r.sector.length from (List.length_set ..).trans hll] at this
              exact this
            have hrw := (row_form HE.out.row)
            rw [HV.out] at hrw
            obtain ⟨p2, c2, hv2, _, hr2⟩ := hrw
            injection hv2 with hp1 _ hp3
            subst hp1
            by_cases hgo2 : t < r.row.length ∧ 0 < c
            · obtain ⟨g1, g2⟩ := hgo2
              obtain ⟨R, rfl, c0, c1⟩ := hr2 t g1
              have b1 : (t : Int) < (r.row.length : Int) := by omega
              have b2 : decide ((t : Int) < (r.row.length : Int)) = true := decide_eq_true b1
              have b3 : (0 : Int) ≤ (t : Int) := by omega
              have b4 : (0 : Int) < (c : Int) := by omega
              have b5 : decide ((0 : Int) < (c : Int)) = true := decide_eq_true b4
              have w1 : IntKind.i64.wrap ((t : Int) + 1) = (t : Int) + 1 := by rw [IntKind.wrap_i64]; omega
              have h1 := cnt_take r.row (i : Int) t g1
              have h2 := lst_take r.row (i : Int) s0 t g1
              dsimp only at c0 c1
              generalize hkey : (r.row[t]).1 = key at c0 h1 h2
              generalize hs1 : (r.row[t]).2 = s1 at c1 h2
              clear hkey hs1
              have hil : i < (ls.set i (lst (r.row.take t) (i : Int) s0)).length := by rw [List.length_set]; omega
              by_cases he : (key : Int) = (i : Int)
              · rw [if_pos he] at h1 h2
                have w2 : IntKind.i64.wrap ((c : Int) - 1) = ((c - 1 : Nat) : Int) := by rw [IntKind.wrap_i64]; omega
                have ck := HE.out.sec.cell i hil
                generalize (show E from { r with sector := ls.set i (lst (r.row.take t) (i : Int) s0) }).sector[i] = s2 at ck
                have fk := HE.out.sec.frozen i
                have HE2 := Aside0.mk (HE.out.sector i hil s1)
                have HX := Aside0.mk (show cnt (r.row.take (t + 1)) (i : Int) + (c - 1) = pa by rw [h1]; have := hcp.out; omega)
                have H2 := Aside0.mk h2
                rw [he] at c0
                clear h1 h2 he hr2 hp3 hil g1 hcp HE
                go_wp2_with fail
                go_region
                go_wp2_with fail
                go_roundg (r.row.length - (t + 1))
                case measure => omega
                case rel =>
                  refine ⟨t + 1, c - 1, rfl, rfl, by omega, Nat.le_refl _, HX, by omega, ?_, Aside0.mk (HT.out.set (.inl okL) _).drew⟩
                  rw [H2.out]
                  have := HE2.out
                  simp only [List.set_set] at this
                  exact Aside0.mk (this.quiet ((Below.refl _ _).drew))
              · rw [if_neg he] at h1 h2
                have f1 : ((key : Int) == (i : Int)) = false := beq_eq_false_iff_ne.mpr he
                have HX := Aside0.mk (show cnt (r.row.take (t + 1)) (i : Int) + c = pa by rw [h1]; have := hcp.out; omega)
                have H2 := Aside0.mk h2
                clear h1 h2 he hr2 hp3 hil g1 hcp
                go_wp2_with fail
                go_roundg (r.row.length - (t + 1))
                case measure => omega
                case rel =>
                  refine ⟨t + 1, c, rfl, rfl, by omega, Nat.le_refl _, HX, hc6, ?_, HT⟩
                  rw [H2.out]
                  exact HE
            · have b3 : ((t : Int) < (r.row.length : Int) ∧ decide ((t : Int) < (r.row.length : Int)) = true ∧ ¬ (0 : Int) < (c : Int) ∧ decide ((0 : Int) < (c : Int)) = false) ∨ (¬ (t : Int) < (r.row.length : Int) ∧ decide ((t : Int) < (r.row.length : Int)) = false) := by
                by_cases h1 : t < r.row.length
                · exact .inl ⟨by omega, decide_eq_true (by omega), by omega, decide_eq_false (by omega)⟩
                · exact .inr ⟨by omega, decide_eq_false (by omega)⟩
              have hcz : cnt (r.row.take t) (i : Int) = pa := by
                have h1 := hcp.out
                by_cases h2 : t < r.row.length
                · omega
                · have h3 := HM2.out
                  rw [List.take_of_length_le (by omega)] at h1 ⊢
                  omega
              have hfin := lst_kept r.row i t pa s0 hcz
              have HUf := Aside0.mk (show Upto picks (of r.row) r.sector (i + 1) (ls.set i (lst (r.row.take t) (i : Int) s0)) by rw [hfin]; exact HUs.out)
              clear hcz hfin hgo2 hr2 hp3 hcp HUs
              rcases b3 with ⟨d1, d2, d3, d4⟩ | ⟨d1, d2⟩
              all_goals
                go_wp2_with fail
                go_roundg (r.sector.length - (i + 1))
                case measure => omega
                case rel => exact ⟨i + 1, _, rfl, by rw [HB2.out]; rfl, by omega, Nat.le_refl _, HE, HUf, HT⟩
    · have a1 : ¬ (i : Int) < (r.sector.length : Int) := by omega
      have a2 : decide ((i : Int) < (r.sector.length : Int)) = false := decide_eq_false a1
      obtain rfl : i = r.sector.length := by omega
      have HF := Aside0.mk (upto_end HU.out)
      have z1 := HE.out.z1
      have f1 := HE.out.fz 1
      have HE1 := Aside0.mk HE.out.clear
      have z2' := HE1.out.z2
      have f2' := HE1.out.fz 2
      have HE2 := Aside0.mk (HE1.out.put 2 (.bool false) { r with sector := ls, row := [], off := false } rfl rfl rfl)
      clear hgo HE HU HE1
      go_wp2_with fail
      go_ret
      rw [← HF.out]
      exact EDoes.of rfl rfl rfl HE2.out ((HT.out.set (.inl okg) _).set (.inl okg) _)
theorem estart_calls (w : World) {ok : Nat → Prop} {g : Nat} {r : E} {y : ELay} (h : EAt w ok g r y) (p : Option Addr) (picks : List Int) (pc : Nat) (hp : Ints w ok p picks) (hpl : picks.length ≤ 9223372036854775807) : Calls Try.prog 105 #[.pointer (some ⟨g, 0, none⟩), .slice p picks.length pc] w (EDoes ok g (r.start picks).1 (.int .i64 (r.start picks).2) w) := by
  unfold E.start
  cases ho : r.off
  · rw [if_pos rfl]
    exact estart_no w h _ ho
  · rw [if_neg (by decide)]
    exact estart_yes w h p picks pc hp hpl ho
end Go.Proofs.Ytjbkkmgkckopdaa.Dv
