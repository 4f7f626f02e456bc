/- The device: Waits, Read. -/
import Derived.Test.YtjbkkmgkckopdaaDoorDevA
namespace Go.Proofs.YtjbkkmgkckopdaaDoor.Dv
open Go.RowKit Go.Proofs.YtjbkkmgkckopdaaDoorW.PrintWords Go.Proofs.YtjbkkmgkckopdaaDoorW.PrintLast Go.Proofs.YtjbkkmgkckopdaaDoorW.PrintMore Go.Proofs.YtjbkkmgkckopdaaDoor.Mem
set_option linter.unusedVariables false
set_option linter.unusedSimpArgs false
theorem zero64 (w : World) : (zeroValue 62).run Tryd.prog w = .ok (.slice none 0 0) w := by kernel_rfl
def pr (e : DEnt) : Nat × List S := (e.key, e.xs)
theorem seek_ent (n : Nat) : ∀ es : List DEnt, (∃ i e, seek (es.map DEnt.ent) (n : Int) = some (i, .slice (some ⟨e.g, 0, none⟩) e.xs.length e.cap) ∧ es[i]? = some e ∧ e.key = n ∧ look (es.map (fun e => (e.key, e.xs))) n = e.xs) ∨
    (seek (es.map DEnt.ent) (n : Int) = none ∧ (∀ e ∈ es, e.key ≠ n) ∧ look (es.map (fun e => (e.key, e.xs))) n = [])
  | [] => .inr ⟨rfl, by simp, rfl⟩
  | e :: r => by
    by_cases hk : e.key = n
    · refine .inl ⟨0, e, ?_, rfl, hk, ?_⟩
      · rw [List.map_cons, seek, if_pos (show (DEnt.ent e).key = (n : Int) by simp [DEnt.ent, hk])]; rfl
      · rw [List.map_cons, look, if_pos hk]
    · have hk' : ¬ (DEnt.ent e).key = (n : Int) := by simp [DEnt.ent]; omega
      rcases seek_ent n r with ⟨i, e', h1, h2, h3, h4⟩ | ⟨h1, h2, h3⟩
      · refine .inl ⟨i + 1, e', ?_, by simpa using h2, h3, ?_⟩
        · rw [List.map_cons, seek, if_neg hk', h1]; rfl
        · rw [List.map_cons, look, if_neg hk, h4]
      · refine .inr ⟨?_, ?_, ?_⟩
        · rw [List.map_cons, seek, if_neg hk', h1]; rfl
        · intro e' he'
          rcases List.mem_cons.1 he' with rfl | he'
          · exact hk
          · exact h2 e' he'
        · rw [List.map_cons, look, if_neg hk, h3]
section
variable {w : World} {ok : Nat → Prop} {g : Nat} {d : D} {y : Lay}
theorem DAt.look_run (h : DAt w ok g d y) (W : World) (hW : W.heap[y.M]? = w.heap[y.M]?) (n : Nat) : (Instr.lookup 64 (.map (some y.M)) (.int .i64 (n : Int)) false).run Tryd.prog W = .ok (match seek (y.es.map DEnt.ent) (n : Int) with | some p => p.2 | none => .slice none 0 0) W :=
  run_lookup (P := Tryd.prog) (hW.trans h.map) Tryd.underlying64 Tryd.underlying3 zero64 (n : Int)
set_option maxHeartbeats 2000000 in
theorem read_calls (w : World) (h : DAt w ok g d y) (i : Int) : Calls Tryd.prog 13 #[.pointer (some ⟨g, 0, none⟩), .int .i64 i] w (Say (.tuple #[.string (d.read i).1, .int .i64 (d.read i).2]) w) := by
  by_cases hc : i < 0 ∨ (d.lasts.length : Int) ≤ i
  · have HI := Aside0.mk (is_no w h i hc)
    have e : d.read i = (ByteArray.empty, 1) := by unfold D.read; rw [if_pos hc]
    rw [e]
    clear h hc e
    go_enter Tryd.func13, Tryd.ntmps13
    go_wp2_with fail
    refine HI.out.mono ?_
    rintro e w1 ⟨rfl, rfl⟩
    go_wp2_with fail
    go_ret2
    exact ⟨rfl, rfl⟩
  · obtain ⟨n, rfl⟩ := Int.eq_ofNat_of_zero_le (show 0 ≤ i by omega)
    have HI := Aside0.mk (is_yes w h n (by omega) (by omega))
    have hn : n < d.lasts.length := by omega
    have z2 := h.z2
    by_cases ho : d.off = true
    · have e : d.read n = (ByteArray.empty, 6) := by unfold D.read; rw [if_neg hc, if_pos ho]
      rw [e]
      rw [ho] at z2
      clear h hc e ho
      go_enter Tryd.func13, Tryd.ntmps13
      go_wp2_with fail
      refine HI.out.mono ?_
      rintro e w1 ⟨rfl, rfl⟩
      go_wp2_with fail
      go_ret2
      exact ⟨rfl, rfl⟩
    · have e : d.read n = ((look d.waits n).getLast?.getD (d.lasts.getD n ByteArray.empty), 0) := by unfold D.read; rw [if_neg hc, if_neg ho]; rfl
      rw [e]
      have ho' : d.off = false := by simpa using ho
      rw [ho'] at z2
      have z0 := h.z0
      have z1 := h.z1
      have hk := h.look_run w rfl n
      have cn := h.row.cell n hn
      have b0 : (0 : Int) ≤ (n : Int) := by omega
      have b2 : (n : Int) < (d.lasts.length : Int) := by omega
      rcases seek_ent n y.es with ⟨j, en, h1, h2, h3, h4⟩ | ⟨h1, h2, h4⟩
      · rw [h1] at hk
        have hmem : en ∈ y.es := List.mem_of_getElem? h2
        have hne : en.xs ≠ [] := (h.good.2 (en.key, en.xs) (by rw [h.waits]; exact List.mem_map.2 ⟨en, hmem, rfl⟩)).2
        obtain ⟨m, hm⟩ : ∃ m, en.xs.length = m + 1 := ⟨en.xs.length - 1, by have := List.length_pos_iff.2 hne; omega⟩
        have hfew := h.few en hmem
        have cl := (h.rows en hmem).1.cell m (by omega)
        have e2 : (look d.waits n).getLast?.getD (d.lasts.getD n ByteArray.empty) = en.xs[m] := by
          rw [h.waits, h4, List.getLast?_eq_getElem?, show en.xs.length - 1 = m by omega, List.getElem?_eq_getElem (show m < en.xs.length by omega)]; rfl
        rw [e2]
        generalize en.xs[m]'(by omega) = s at cl
        rw [hm] at hk hfew
        have b3 : (m : Int) + 1 - 1 = (m : Int) := by omega
        have b4 : (0 : Int) < (m : Int) + 1 := by omega
        have b5 : decide ((0 : Int) < (m : Int) + 1) = true := decide_eq_true b4
        clear h hc e e2 h1 h2 h3 h4 hne hm ho ho' cn hmem
        go_enter Tryd.func13, Tryd.ntmps13
        go_wp2_with fail
        refine HI.out.mono ?_
        rintro e w1 ⟨rfl, rfl⟩
        go_wp2_with fail
        go_ret2
        exact ⟨rfl, rfl⟩
      · rw [h1] at hk
        have e2 : (look d.waits n).getLast?.getD (d.lasts.getD n ByteArray.empty) = d.lasts[n] := by
          rw [h.waits, h4]
          show d.lasts.getD n ByteArray.empty = _
          rw [List.getD_eq_getElem?_getD, List.getElem?_eq_getElem hn]; rfl
        rw [e2]
        generalize d.lasts[n] = s at cn
        clear h hc e e2 h1 h2 h4 ho ho'
        go_enter Tryd.func13, Tryd.ntmps13
        go_wp2_with fail
        refine HI.out.mono ?_
        rintro e w1 ⟨rfl, rfl⟩
        go_wp2_with fail
        go_ret2
        exact ⟨rfl, rfl⟩
end
end Go.Proofs.YtjbkkmgkckopdaaDoor.Dv
