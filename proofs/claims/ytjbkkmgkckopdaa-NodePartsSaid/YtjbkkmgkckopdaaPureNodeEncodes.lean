/- Cells that may be a node's have their bytes, and are read from them as they were; others have none: up to 200 cells with keys and values of up to 300 bytes, more are let go by the statement itself. -/
import Derived.Test.YtjbkkmgkckopdaaNodeH
namespace Go.Proofs.Ytjbkkmgkckopdaa.Pure
open Go.RowKit Go.Proofs.Ytjbkkmgkckopdaa.PN Go.Proofs.YtjbkkmgkckopdaaW.PrintWords Go.Proofs.YtjbkkmgkckopdaaW.PrintLast
set_option linter.unusedVariables false
set_option linter.unusedSimpArgs false

theorem long_loop (l : List S35) (hb : l.length ≤ 9223372036854775807) : ∀ (d i : Nat), i + d = l.length → i ≤ 200 → (∀ j (h : j < l.length), j < i → l[j].f0.size ≤ 300 ∧ l[j].f1.size ≤ 300) →
    ∃ b, Ev (fun k => rollbooklaw06_long.l0 k l (i : Int)) b ∧ (b = false → l.length ≤ 200 ∧ ∀ j (h : j < l.length), l[j].f0.size ≤ 300 ∧ l[j].f1.size ≤ 300)
  | 0, i, h, hi, hj => by
    refine ⟨decide ((l.length : Int) > 200), Ev.step (fun k => by rw [rollbooklaw06_long.l0, if_neg (by omega)]) (Ev.step (fun k => by rw [rollbooklaw06_long.j1, if_neg (by decide)]) (Ev.now _)), fun _ => ⟨by omega, fun j hjl => hj j hjl (by omega)⟩⟩
  | d + 1, i, h, hi, hj => by
    by_cases c : i < 200
    · have e : decide ((i : Int) < 200) = true := decide_eq_true (by omega)
      have hlt : i < l.length := by omega
      have er : rd_T35 l (i : Int) = l[i] := by unfold rd_T35; simp [hlt]
      by_cases c0 : l[i].f0.size > 300
      · exact ⟨true, Ev.step (fun k => by rw [rollbooklaw06_long.l0, if_pos (by omega), e]) (Ev.step (fun k => by rw [rollbooklaw06_long.j1, if_pos rfl, if_pos (by omega), if_pos (by omega), er, if_pos (by omega)]) (Ev.now _)), fun h => by cases h⟩
      by_cases c1 : l[i].f1.size > 300
      · exact ⟨true, Ev.step (fun k => by rw [rollbooklaw06_long.l0, if_pos (by omega), e]) (Ev.step (fun k => by rw [rollbooklaw06_long.j1, if_pos rfl, if_pos (by omega), if_pos (by omega), er, if_neg (by omega), if_pos (by omega)]) (Ev.now _)), fun h => by cases h⟩
      obtain ⟨b, hb1, hb2⟩ := long_loop l hb d (i + 1) (by omega) (by omega) (fun j hjl hji => by
        by_cases e : j = i
        · subst e; exact ⟨by omega, by omega⟩
        · exact hj j hjl (by omega))
      exact ⟨b, Ev.step (fun k => by rw [rollbooklaw06_long.l0, if_pos (by omega), e]) (Ev.step (fun k => by rw [rollbooklaw06_long.j1, if_pos rfl, if_pos (by omega), if_pos (by omega), er, if_neg (by omega), if_neg (by omega), w1 i (by omega)]) hb1), hb2⟩
    · have e : decide ((i : Int) < 200) = false := decide_eq_false (by omega)
      have e2 : decide ((l.length : Int) > 200) = true := decide_eq_true (by omega)
      exact ⟨true, Ev.step (fun k => by rw [rollbooklaw06_long.l0, if_pos (by omega), e]) (Ev.step (fun k => by rw [rollbooklaw06_long.j1, if_neg (by decide), e2]) (Ev.now _)), fun h => by cases h⟩
theorem long_ev (l : List S35) (hb : l.length ≤ 9223372036854775807) : ∃ b, Ev (fun k => rollbooklaw06_long.f k l) b ∧ (b = false → l.length ≤ 200 ∧ ∀ c ∈ l, small c) := by
  obtain ⟨b, h1, h2⟩ := long_loop l hb l.length 0 (by omega) (by omega) (fun j _ h => absurd h (by omega))
  refine ⟨b, Ev.congr (fun k => by rw [rollbooklaw06_long.f]; rfl) h1, fun h => ⟨(h2 h).1, fun c hc => ?_⟩⟩
  obtain ⟨j, hj, rfl⟩ := List.mem_iff_getElem.1 hc
  have := (h2 h).2 j hj
  exact ⟨by omega, by omega⟩
theorem bytes_ev (leaf : Bool) (l : List S35) (hl : l.length ≤ 1048576) (hs : ∀ c ∈ l, small c) : Ev (fun k => node_Bytes.f k leaf l) (if rightB leaf l = true then (tot leaf l : Int) else 0) := by
  refine Ev.congr (fun k => by rw [node_Bytes.f]) (Ev.bind (right_ev leaf l (by omega)) ?_)
  by_cases c : rightB leaf l = true
  · rw [if_pos c]
    exact Ev.congr (fun k => by rw [if_pos c]) (Ev.bind (sum_ev leaf l hl hs) (Ev.now _))
  · rw [if_neg c]
    exact Ev.congr (fun k => by rw [if_neg c]) (Ev.now _)
theorem rbytes_ev (leaf : Bool) (l : List S35) (hl : l.length ≤ 1048576) (hs : ∀ c ∈ l, small c) : Ev (fun k => rollbookref06_Bytes.f k leaf l) (if rightB leaf l = true then (tot leaf l : Int) else 0) := by
  refine Ev.congr (fun k => by rw [rollbookref06_Bytes.f]) (Ev.bind (rright_ev leaf l (by omega) (fun c hc => (hs c hc).1)) ?_)
  by_cases c : rightB leaf l = true
  · rw [if_pos c]
    exact Ev.congr (fun k => by rw [if_pos c]) (Ev.bind (count_ev leaf l hl hs) (Ev.now _))
  · rw [if_neg c]
    exact Ev.congr (fun k => by rw [if_neg c]) (Ev.now _)

theorem nil_list : (⟨#[]⟩ : ByteArray).toList = [] := (empty_iff ⟨#[]⟩).2 rfl

theorem NodeEncodes (leaf : Bool) (l : List S35) (hb : l.length ≤ 9223372036854775807) : ∃ k, rollbooklaw06_NodeEncodes.f k leaf l = some true := by
  refine Ev.rounds (g := fun k => rollbooklaw06_NodeEncodes.f k leaf l) ?_
  refine Ev.congr (fun k => by rw [rollbooklaw06_NodeEncodes.f]) (Ev.bind awake_ev ?_)
  refine Ev.congr (fun k => by rw [if_pos rfl]) ?_
  obtain ⟨b, h1, h2⟩ := long_ev l hb
  refine Ev.bind h1 ?_
  cases b with
  | true => exact Ev.congr (fun k => by rw [if_pos rfl]) (Ev.now _)
  | false =>
    obtain ⟨hl, hs⟩ := h2 rfl
    refine Ev.congr (fun k => by rw [if_neg (by decide)]) (Ev.bind (enc_ev leaf l (by omega) hs) (Ev.bind (renc_ev leaf l (by omega) hs) ?_))
    refine Ev.congr (fun k => by rw [if_pos rfl, if_pos rfl]) (Ev.bind (right_ev leaf l (by omega)) (Ev.bind (rright_ev leaf l (by omega) (fun c hc => (hs c hc).1)) ?_))
    refine Ev.congr (fun k => by rw [if_neg (by simp)]) (Ev.bind (bytes_ev leaf l (by omega) hs) (Ev.bind (rbytes_ev leaf l (by omega) hs) ?_))
    refine Ev.step (fun k => by rw [rollbooklaw06_NodeEncodes.j0, if_neg (by simp)]) ?_
    by_cases c : rightB leaf l = true
    · by_cases c2 : tot leaf l > 488
      · have e : encR leaf l = (⟨#[]⟩, 5) := by unfold encR; rw [if_pos c, if_pos c2]
        rw [e]
        exact Ev.congr (fun k => by rw [if_neg (by decide), nil_list]; rfl) (Ev.now _)
      · have e := encR_ok c (by omega : tot leaf l ≤ 488)
        rw [e]
        refine Ev.congr (fun k => by rw [if_pos rfl]) (Ev.bind (decode_rt leaf l c (by omega)) ?_)
        refine Ev.congr (fun k => by rw [if_pos rfl]) (Ev.bind (same_ev l (by omega)) ?_)
        refine Ev.congr (fun k => by rw [if_pos rfl]) (Ev.bind (bytes_ev leaf l (by omega) hs) ?_)
        have e3 : ((ba (encL leaf l)).size : Int) = (tot leaf l : Int) := by rw [ba_size, encL_length]
        have e4 : decide (((ba (encL leaf l)).size : Int) ≤ 488) = true := decide_eq_true (by omega)
        exact Ev.congr (fun k => by rw [if_pos c, if_pos e3, e4]) (Ev.now _)
    · have e : encR leaf l = (⟨#[]⟩, 4) := by unfold encR; rw [if_neg c]
      rw [e]
      exact Ev.congr (fun k => by rw [if_neg (by decide), nil_list]; rfl) (Ev.now _)
end Go.Proofs.Ytjbkkmgkckopdaa.Pure
