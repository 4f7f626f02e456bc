/- The pager: what it has; a file that is begun; awake. -/
import Derived.Test.YtjbkkmgkckopdaaDoorPd
namespace Go.Proofs.YtjbkkmgkckopdaaDoor.Pg
open Go.RowKit Go.Proofs.YtjbkkmgkckopdaaDoorW.PrintWords Go.Proofs.YtjbkkmgkckopdaaDoorW.PrintLast Go.Proofs.YtjbkkmgkckopdaaDoorW.PrintMore Go.Proofs.YtjbkkmgkckopdaaDoor.Num Go.Proofs.YtjbkkmgkckopdaaDoor.Mem Go.Proofs.YtjbkkmgkckopdaaDoor.Dv
set_option linter.unusedVariables false
set_option linter.unusedSimpArgs false
/-- A pager's block. -/
def PB (w : World) (gp g : Nat) (p : G) (sp : Value) : Prop := w.heap[gp]? = some (.cells (p.cells g sp) 71 (0, 0))
section
variable {w : World} {gp g : Nat} {p : G} {sp : Value}
set_option maxHeartbeats 1000000 in
set_option maxRecDepth 100000 in
theorem meta_calls (h : PB w gp g p sp) : Calls Tryd.prog 11 #[.pointer (some ⟨gp, 0, none⟩)] w (fun e w' => e = .returned (.agg p.cur.cells) ∧ Below w.heap.size w w') := by
  unfold PB G.cells at h
  have c1 := (blk_cell h 1).trans rfl
  have c2 := (blk_cell h 2).trans rfl
  have c3 := (blk_cell h 3).trans rfl
  have c4 := (blk_cell h 4).trans rfl
  have c5 := (blk_cell h 5).trans rfl
  have hl := blk_lt h
  have hne : ¬ w.heap.size = gp := by omega
  have d1 := (blk_cell (blk_alloc h (.cells #[.int .i64 0, .int .i64 0, .int .i64 0, .int .i64 0, .int .i64 0] 32)) 1).trans rfl
  have d2 := (blk_cell (blk_alloc h (.cells #[.int .i64 0, .int .i64 0, .int .i64 0, .int .i64 0, .int .i64 0] 32)) 2).trans rfl
  have d3 := (blk_cell (blk_alloc h (.cells #[.int .i64 0, .int .i64 0, .int .i64 0, .int .i64 0, .int .i64 0] 32)) 3).trans rfl
  have d4 := (blk_cell (blk_alloc h (.cells #[.int .i64 0, .int .i64 0, .int .i64 0, .int .i64 0, .int .i64 0] 32)) 4).trans rfl
  have d5 := (blk_cell (blk_alloc h (.cells #[.int .i64 0, .int .i64 0, .int .i64 0, .int .i64 0, .int .i64 0] 32)) 5).trans rfl
  unfold M.cells
  clear h hl hne
  go_enter Tryd.func11, Tryd.ntmps11
  go_wp2_with fail
  refine bodyPost_ret (results_single (r := .cell 2 32) rfl (.cell w.heap.size 32 _ (0, 0) _ rfl (blk_new w _) Tryd.underlying32 rfl (by kernel_rfl) .nil)) rfl ?_
  exact ⟨rfl, below_alloc (Below.refl _ _) _⟩
set_option maxHeartbeats 1000000 in
set_option maxRecDepth 100000 in
theorem other_calls (h : PB w gp g p sp) : Calls Tryd.prog 16 #[.pointer (some ⟨gp, 0, none⟩)] w (fun e w' => e = .returned (.tuple #[.agg p.oth.cells, .bool p.both]) ∧ Below w.heap.size w w') := by
  unfold PB G.cells at h
  have h2 := blk_drew (blk_alloc h (.cells #[.int .i64 0, .int .i64 0, .int .i64 0, .int .i64 0, .int .i64 0] 32))
  have d1 := (blk_cell h2 6).trans rfl
  have d2 := (blk_cell h2 7).trans rfl
  have d3 := (blk_cell h2 8).trans rfl
  have d4 := (blk_cell h2 9).trans rfl
  have d5 := (blk_cell h2 10).trans rfl
  have d6 := (blk_cell h2 11).trans rfl
  have d7 := (blk_cell (blk_drew (blk_alloc h (.cells #[.int .i64 p.oth.txn, .int .i64 p.oth.root, .int .i64 p.oth.free, .int .i64 p.oth.pages, .int .i64 p.oth.limit] 32))) 11).trans rfl
  unfold M.cells
  clear h h2
  go_enter Tryd.func16, Tryd.ntmps16
  go_wp2_with fail
  go_region
  all_goals
    go_wp2_with fail
    refine bodyPost_ret (results_list (rs := [.cell 2 32, .tmp 3]) rfl (by simp) (.cell w.heap.size 32 _ (0, 0) _ rfl (blk_drew (blk_new w _)) Tryd.underlying32 rfl (by kernel_rfl) (.tmp .nil))) rfl ?_
    exact ⟨rfl, (below_alloc (Below.refl _ _) _).drew⟩
end
/-- What is sealed lies apart. -/
def Shut (w0 w : World) (ok : Nat → Prop) (gp : Nat) : Option M → Value → Prop
  | none, sp => sp = .pointer none
  | some m, sp => ∃ gm, sp = .pointer (some ⟨gm, 0, none⟩) ∧ ¬ ok gm ∧ gm ≠ gp ∧ w0.heap.size ≤ gm ∧ w.heap[gm]? = some (.cells m.cells 32 (0, 0))
/-- A pager beside its device, in new memory. -/
structure PD (w0 w : World) (g : Nat) (d : D) (gp : Nat) (p : G) : Prop where
  at_ : ∃ ok y sp, DAt w ok g d y ∧ (∀ k, ok k → w0.heap.size ≤ k ∧ k < w.heap.size) ∧ ¬ ok gp ∧ w0.heap.size ≤ gp ∧ PB w gp g p sp ∧ Shut w0 w ok gp p.shut sp
  below : Below w0.heap.size w0 w
section
variable {w0 w w' : World} {g gp : Nat} {d : D} {p : G}
theorem PD.of_open (h : Dev w0 w g d) (hs : p.shut = none) (hb : Below w.heap.size w w') (hg : w.heap.size ≤ gp) (hp : w'.heap[gp]? = some (.cells (G.cells p g (.pointer none)) 71 (0, 0))) : PD w0 w' g d gp p := by
  obtain ⟨⟨y, hy⟩, hb0⟩ := h
  have l0 := hb0.size
  have l1 := hb.size
  refine ⟨⟨_, y, .pointer none, hy.narrow.quiet hb, fun k hk => ⟨hk.1, Nat.lt_of_lt_of_le hk.2 l1⟩, fun hk => by have := hk.2; omega, Nat.le_trans l0 hg, hp, by rw [hs]; rfl⟩, hb0.trans (hb.mono l0)⟩
theorem PD.dev (h : PD w0 w g d gp p) : Dev w0 w g d := by
  obtain ⟨ok, y, sp, h1, h2, _⟩ := h.at_
  exact ⟨⟨y, h1.move (fun _ _ _ => rfl) (fun k hk _ => (h2 k hk).1)⟩, h.below⟩
theorem PD.pb (h : PD w0 w g d gp p) : ∃ sp, PB w gp g p sp := by
  obtain ⟨ok, y, sp, h1, h2, h3, h4, h5, h6⟩ := h.at_
  exact ⟨sp, h5⟩
theorem PD.quiet (h : PD w0 w g d gp p) (hb : Below w.heap.size w w') : PD w0 w' g d gp p := by
  obtain ⟨ok, y, sp, h1, h2, h3, h4, h5, h6⟩ := h.at_
  have l1 := hb.size
  refine ⟨⟨ok, y, sp, h1.quiet hb, fun k hk => ⟨(h2 k hk).1, Nat.lt_of_lt_of_le (h2 k hk).2 l1⟩, h3, h4, blk_below h5 hb, ?_⟩, h.below.trans (hb.mono h.below.size)⟩
  cases hs : p.shut with
  | none => rw [hs] at h6; exact h6
  | some m =>
    rw [hs] at h6
    obtain ⟨gm, a1, a2, a3, a4, a5⟩ := h6
    exact ⟨gm, a1, a2, a3, a4, blk_below a5 hb⟩
theorem PD.meta (h : PD w0 w g d gp p) : Calls Tryd.prog 11 #[.pointer (some ⟨gp, 0, none⟩)] w (fun e w' => e = .returned (.agg p.cur.cells) ∧ Below w.heap.size w w') := by
  obtain ⟨sp, hp⟩ := h.pb
  exact meta_calls hp
theorem PD.other (h : PD w0 w g d gp p) : Calls Tryd.prog 16 #[.pointer (some ⟨gp, 0, none⟩)] w (fun e w' => e = .returned (.tuple #[.agg p.oth.cells, .bool p.both]) ∧ Below w.heap.size w w') := by
  obtain ⟨sp, hp⟩ := h.pb
  exact other_calls hp
/-- The device is opened. -/
theorem open_dev (h : Dev w0 w g d) (hr : RowAt w0) (s0 : S) (h0 : d.read 0 = (s0, 0)) : Calls Tryd.prog 10 #[.pointer (some ⟨g, 0, none⟩)] w (OpenPost g (opened crcSum d) w) := by
  obtain ⟨y, hy⟩ := h.1
  exact open_calls hy (hr.below h.2 hr.pos) s0 h0
end
/-- The pager of a file that was just begun. -/
def firstG (limit : Int) : G := ⟨⟨1, 0, 0, 1, limit⟩, ⟨0, 0, 0, 1, limit⟩, true, none⟩
theorem file_read0 {crc : S → Nat} {d : D} {m : M} (h : File crc d m) : ∃ s, d.read 0 = (s, 0) := by
  obtain ⟨s, hs⟩ : ∃ s, d.lasts[0]? = some s := ⟨_, List.getElem?_eq_getElem (by have := h.two; omega)⟩
  exact ⟨s, by have := read_calm h.calm 0 s hs; rwa [Int.natCast_zero] at this⟩
set_option maxHeartbeats 1000000 in
set_option maxRecDepth 100000 in
theorem begin_calls (w : World) (hr : RowAt w) : Calls Tryd.prog 22 #[] w (fun e w' => ∃ g gp d, e = .returned (.tuple #[.pointer (some ⟨g, 0, none⟩), .pointer (some ⟨gp, 0, none⟩)]) ∧ PD w w' g d gp (firstG 6) ∧ File crcSum d ⟨1, 0, 0, 1, 6⟩ ∧ d.lasts.length = 24 ∧ Bd d 3) := by
  have HN := Aside0.mk (show Calls Tryd.prog 8 #[.int .i64 24] w _ from new_dev 24 (by omega) (by omega) (w0 := w) (w := w) (Below.refl _ _))
  have HF := Aside0.mk (fun W g (h : Dev w W g (Dv.fresh 24)) => format_dev h hr ⟨rfl, rfl, rfl⟩ (Bd.fresh 24) (by omega) 6 (by omega) (by omega) (by simp [Dv.fresh]))
  have HO := Aside0.mk (fun W g d (h : Dev w W g d) s0 h0 => open_dev h hr s0 h0)
  clear hr
  go_enter Tryd.func22, Tryd.ntmps22
  go_wp2_with fail
  refine HN.out.mono ?_
  rintro e w1 ⟨g, rfl, hd⟩
  obtain ⟨d3, f1, f2, f3, f4, f5⟩ := HF.out w1 g hd
  have HF5 := Aside0.mk f5
  have HX := Aside0.mk (And.intro f1 (And.intro f2 (And.intro f3 f4)))
  clear hd f1 f2 f3 f4 f5 HF
  go_wp2_with fail
  refine HF5.out.mono ?_
  rintro e w2 ⟨rfl, hd⟩
  obtain ⟨s0, h0⟩ := file_read0 HX.out.1
  have HO2 := Aside0.mk (HO.out w2 g d3 hd s0 h0)
  rw [HX.out.2.2.1] at HO2
  have HD := Aside0.mk hd
  clear hd h0 HO
  go_wp2_with fail
  refine HO2.out.mono ?_
  rintro e w3 ⟨gp, rfl, hb, hg, hp⟩
  have HP := Aside0.mk (PD.of_open (p := firstG 6) HD.out rfl hb hg hp)
  clear hb hg hp
  go_wp2_with fail
  go_ret2
  exact ⟨g, gp, d3, rfl, HP.out, HX.out.1, by rw [HX.out.2.1]; simp [Dv.fresh], HX.out.2.2.2⟩
set_option maxHeartbeats 1000000 in
set_option maxRecDepth 100000 in
theorem awake_calls (w : World) (hr : RowAt w) : Calls Tryd.prog 7 #[] w (fun e w' => e = .returned (.bool true) ∧ Below w.heap.size w w') := by
  have HB := Aside0.mk (begin_calls w hr)
  clear hr
  go_enter Tryd.func7, Tryd.ntmps7
  go_wp2_with fail
  refine HB.out.mono ?_
  rintro e w1 ⟨g, gp, d, rfl, hp, _, _, _⟩
  have HO := Aside0.mk hp.other
  have HP := Aside0.mk hp
  clear hp
  unfold firstG M.cells at HO
  dsimp only at HO
  go_wp2_with fail
  refine HO.out.mono ?_
  rintro e w2 ⟨rfl, hb⟩
  have HP2 := Aside0.mk ((HP.out.quiet hb).quiet (below_alloc (Below.refl _ _) (.cells #[.int .i64 0, .int .i64 0, .int .i64 0, .int .i64 1, .int .i64 6] 32)))
  have HM := Aside0.mk HP2.out.meta
  unfold firstG M.cells at HM
  dsimp only at HM
  clear hb HP
  go_wp2_with fail
  refine HM.out.mono ?_
  rintro e w3 ⟨rfl, hb⟩
  have hx := blk_below (blk_new w2 (.cells #[.int .i64 0, .int .i64 0, .int .i64 0, .int .i64 1, .int .i64 6] 32)) hb
  have c0 := (blk_cell hx 0).trans rfl
  have c1 := (blk_cell hx 1).trans rfl
  have c2 := (blk_cell hx 2).trans rfl
  have c3 := (blk_cell hx 3).trans rfl
  have c4 := (blk_cell hx 4).trans rfl
  have HB3 := Aside0.mk (HP2.out.quiet hb).below
  clear hx hb HP2
  go_wp2_with fail
  go_ret
  exact ⟨rfl, HB3.out⟩
end Go.Proofs.YtjbkkmgkckopdaaDoor.Pg
