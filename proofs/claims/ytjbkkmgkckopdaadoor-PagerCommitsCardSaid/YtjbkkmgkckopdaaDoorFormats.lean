/- PagerFormats: the walk. -/
import Derived.Test.YtjbkkmgkckopdaaDoorPg
namespace Go.Proofs.YtjbkkmgkckopdaaDoor.Pg
open Go.RowKit Go.Proofs.YtjbkkmgkckopdaaDoorW.PrintWords Go.Proofs.YtjbkkmgkckopdaaDoorW.PrintLast Go.Proofs.YtjbkkmgkckopdaaDoorW.PrintMore Go.Proofs.YtjbkkmgkckopdaaDoor.Num Go.Proofs.YtjbkkmgkckopdaaDoor.Mem Go.Proofs.YtjbkkmgkckopdaaDoor.Dv
set_option linter.unusedVariables false
set_option linter.unusedSimpArgs false
theorem size_nil (w : World) : Calls Tryd.prog 29 #[.pointer none] w (Say (.int .i64 0) w) := by
  go_enter Tryd.func29, Tryd.ntmps29
  go_wp2_with fail
  go_ret
  exact ⟨rfl, rfl⟩
set_option maxHeartbeats 1000000 in
set_option maxRecDepth 100000 in
/-- Where the limit can't be, or is too great, nothing is laid. -/
theorem format_refuses (v : Value) (n limit : Int) (w : World) (hS : Calls Tryd.prog 29 #[v] w (Say (.int .i64 n) w)) (h : limit < 4 ∨ 512 < limit ∨ n < 4 * limit) :
    Calls Tryd.prog 9 #[v, .int .i64 limit] w (Say (.int .i64 1) w) := by
  have HS := Aside0.mk hS
  clear hS
  by_cases h1 : limit < 4
  · clear h
    go_enter Tryd.func9, Tryd.ntmps9
    go_wp2_with fail
    go_ret
    exact ⟨rfl, rfl⟩
  by_cases h2 : (512 : Int) < limit
  · clear h
    go_enter Tryd.func9, Tryd.ntmps9
    go_wp2_with fail
    go_ret
    exact ⟨rfl, rfl⟩
  have h3 : n < 4 * limit := by omega
  have a4 : IntKind.i64.wrap (4 * limit) = 4 * limit := by rw [IntKind.wrap_i64]; omega
  clear h
  go_enter Tryd.func9, Tryd.ntmps9
  go_wp2_with fail
  refine HS.out.mono ?_
  rintro e w1 ⟨rfl, rfl⟩
  go_wp2_with fail
  go_ret
  exact ⟨rfl, rfl⟩
def Tell (v : Value) (w : World) (e : Ending) (w' : World) : Prop := e = .returned v ∧ Below w.heap.size w w'
set_option maxHeartbeats 1000000 in
set_option maxRecDepth 100000 in
theorem formats_none (sectors most : Int) (hn : sectors < 1 ∨ 2048 < sectors) (w : World) (hr : RowAt w) : Calls Tryd.prog 3 #[.int .i64 sectors, .int .i64 most] w (Tell (.bool true) w) := by
  have HA := Aside0.mk (awake_calls w hr)
  have HN := Aside0.mk (fun W => new_no sectors hn W)
  have HF := Aside0.mk (fun W => format_refuses (.pointer none) 0 most W (size_nil W) (by omega))
  clear hn hr
  go_enter Tryd.func3, Tryd.ntmps3
  go_wp2_with fail
  refine HA.out.mono ?_
  rintro e w1 ⟨rfl, hb⟩
  have HB := Aside0.mk hb
  clear hb
  go_wp2_with fail
  refine (HN.out _).mono ?_
  rintro e w2 ⟨rfl, rfl⟩
  go_wp2_with fail
  refine (HF.out _).mono ?_
  rintro e w2 ⟨rfl, rfl⟩
  go_wp2_with fail
  go_ret
  exact ⟨rfl, HB.out⟩
set_option maxHeartbeats 1000000 in
set_option maxRecDepth 100000 in
theorem formats_no (n : Nat) (most : Int) (h1 : 1 ≤ n) (h2 : n ≤ 2048) (hm : most < 4 ∨ 512 < most ∨ (n : Int) < 4 * most) (w : World) (hr : RowAt w) : Calls Tryd.prog 3 #[.int .i64 (n : Int), .int .i64 most] w (Tell (.bool true) w) := by
  have HA := Aside0.mk (awake_calls w hr)
  have HN := Aside0.mk (fun W hb => new_dev n h1 h2 (w0 := w) (w := W) hb)
  have HF := Aside0.mk (fun W g (h : Dev w W g (Dv.fresh n)) => format_refuses (.pointer (some ⟨g, 0, none⟩)) (n : Int) most W (by have := h.size; simpa [Dv.fresh] using this) hm)
  have HO := Aside0.mk (fun W g (h : Dev w W g (Dv.fresh n)) => open_dev h hr zero128 (read_calm (d := Dv.fresh n) ⟨rfl, rfl, rfl⟩ 0 zero128 (by simp [Dv.fresh, List.getElem?_replicate]; omega)))
  have hob : opened crcSum (Dv.fresh n) = (none, if n < 2 then 1 else 4) := opened_blank crcSum n h1
  rw [hob] at HO
  clear hob hr
  have hmay : ¬ (4 ≤ most ∧ most ≤ 512 ∧ most ≤ (n : Int) / 4) := by omega
  clear hm
  go_enter Tryd.func3, Tryd.ntmps3
  go_wp2_with fail
  refine HA.out.mono ?_
  rintro e w1 ⟨rfl, hb⟩
  go_wp2_with fail
  refine (HN.out _ hb).mono ?_
  rintro e w2 ⟨g, rfl, hd⟩
  have HF2 := Aside0.mk (HF.out w2 g hd)
  have HO2 := Aside0.mk (HO.out w2 g hd)
  have HB2 := Aside0.mk hd.2
  clear hb hd HF HO HN HA
  go_wp2_with fail
  refine HF2.out.mono ?_
  rintro e w3 ⟨rfl, rfl⟩
  have hc : (¬ 4 ≤ most ∧ decide (4 ≤ most) = false) ∨ (4 ≤ most ∧ decide (4 ≤ most) = true ∧ ¬ most ≤ 512 ∧ decide (most ≤ 512) = false) ∨ (4 ≤ most ∧ decide (4 ≤ most) = true ∧ most ≤ 512 ∧ decide (most ≤ 512) = true ∧ ¬ most ≤ (n : Int) / 4 ∧ decide (most ≤ (n : Int) / 4) = false) := by
    by_cases m1 : 4 ≤ most
    · by_cases m2 : most ≤ 512
      · exact .inr (.inr ⟨m1, decide_eq_true m1, m2, decide_eq_true m2, fun h => hmay ⟨m1, m2, h⟩, decide_eq_false fun h => hmay ⟨m1, m2, h⟩⟩)
      · exact .inr (.inl ⟨m1, decide_eq_true m1, m2, decide_eq_false m2⟩)
    · exact .inl ⟨m1, decide_eq_false m1⟩
  clear hmay
  by_cases hn2 : n < 2
  · rw [if_pos hn2] at HO2
    have b1 : (n : Int) < 2 := by omega
    have b2 : decide ((n : Int) < 2) = true := decide_eq_true b1
    clear hn2 h1 h2
    rcases hc with ⟨x1, x2⟩ | ⟨x1, x2, x3, x4⟩ | ⟨x1, x2, x3, x4, x5, x6⟩
    all_goals
      go_wp2_with fail
      refine HO2.out.mono ?_
      rintro e w4 ⟨rfl, hb⟩
      have HB4 := Aside0.mk (below_then HB2.out HB2.out.size hb)
      clear hb
      go_wp2_with fail
      go_ret
      exact ⟨rfl, HB4.out⟩
  · rw [if_neg hn2] at HO2
    clear hn2 h1 h2
    rcases hc with ⟨x1, x2⟩ | ⟨x1, x2, x3, x4⟩ | ⟨x1, x2, x3, x4, x5, x6⟩
    all_goals
      go_wp2_with fail
      refine HO2.out.mono ?_
      rintro e w4 ⟨rfl, hb⟩
      have HB4 := Aside0.mk (below_then HB2.out HB2.out.size hb)
      clear hb
      go_wp2_with fail
      go_ret
      exact ⟨rfl, HB4.out⟩
set_option maxHeartbeats 1000000 in
set_option maxRecDepth 100000 in
theorem formats_yes (n : Nat) (most : Int) (h2 : n ≤ 2048) (x1 : 4 ≤ most) (x3 : most ≤ 512) (hm : 4 * most ≤ (n : Int)) (w : World) (hr : RowAt w) : Calls Tryd.prog 3 #[.int .i64 (n : Int), .int .i64 most] w (Tell (.bool true) w) := by
  have HA := Aside0.mk (awake_calls w hr)
  have HN := Aside0.mk (fun W hb => new_dev n (by omega) h2 (w0 := w) (w := W) hb)
  have HF := Aside0.mk (fun W g (h : Dev w W g (Dv.fresh n)) => format_dev h hr ⟨rfl, rfl, rfl⟩ (Bd.fresh n) (by omega) most x1 x3 (by simpa [Dv.fresh] using hm))
  have HO := Aside0.mk (fun W g d (h : Dev w W g d) s0 h0 => open_dev h hr s0 h0)
  have x5 : most ≤ (n : Int) / 4 := by omega
  have y1 := decide_eq_true x1
  have y3 := decide_eq_true x3
  have y5 := decide_eq_true x5
  clear hr hm
  go_enter Tryd.func3, Tryd.ntmps3
  go_wp2_with fail
  refine HA.out.mono ?_
  rintro e w1 ⟨rfl, hb⟩
  go_wp2_with fail
  refine (HN.out _ hb).mono ?_
  rintro e w2 ⟨g, rfl, hd⟩
  obtain ⟨d3, f1, f2, f3, f4, f5⟩ := HF.out w2 g hd
  have HF5 := Aside0.mk f5
  have HX := Aside0.mk (And.intro f1 f3)
  clear hb hd f1 f2 f3 f4 f5 HF
  go_wp2_with fail
  refine HF5.out.mono ?_
  rintro e w3 ⟨rfl, hd⟩
  obtain ⟨s0, h0⟩ := file_read0 HX.out.1
  have HO2 := Aside0.mk (HO.out w3 g d3 hd s0 h0)
  rw [HX.out.2] at HO2
  have HD := Aside0.mk hd
  clear hd h0 HO
  go_wp2_with fail
  refine HO2.out.mono ?_
  rintro e w4 ⟨gp, rfl, hb, hg, hp⟩
  have HP := Aside0.mk (PD.of_open (p := firstG most) HD.out rfl hb hg hp)
  have HM := Aside0.mk HP.out.meta
  unfold firstG M.cells at HM
  dsimp only at HM
  clear hb hg hp
  go_wp2_with fail
  refine HM.out.mono ?_
  rintro e w5 ⟨rfl, hb⟩
  have HB5 := Aside0.mk (HP.out.quiet hb).below
  clear hb HP
  go_wp2_with fail
  go_ret
  exact ⟨rfl, HB5.out⟩
/-- PagerFormats answers true. -/
theorem formats_calls (sectors most : Int) (w : World) (hr : RowAt w) : Calls Tryd.prog 3 #[.int .i64 sectors, .int .i64 most] w (Tell (.bool true) w) := by
  by_cases hn : sectors < 1 ∨ 2048 < sectors
  · exact formats_none sectors most hn w hr
  · obtain ⟨n, rfl⟩ : ∃ n : Nat, sectors = (n : Int) := ⟨sectors.toNat, by omega⟩
    by_cases hm : most < 4 ∨ 512 < most ∨ (n : Int) < 4 * most
    · exact formats_no n most (by omega) (by omega) hm w hr
    · exact formats_yes n most (by omega) (by omega) (by omega) (by omega) w hr
end Go.Proofs.YtjbkkmgkckopdaaDoor.Pg
