/- The reference device: New. -/
import Derived.Test.YtjbkkmgkckopdaaDevRD
namespace Go.Proofs.Ytjbkkmgkckopdaa.Dv
open Go.RowKit Go.Proofs.YtjbkkmgkckopdaaW.PrintWords Go.Proofs.YtjbkkmgkckopdaaW.PrintLast Go.Proofs.YtjbkkmgkckopdaaW.PrintMore Go.Proofs.Ytjbkkmgkckopdaa.Mem
set_option linter.unusedVariables false
set_option linter.unusedSimpArgs false
def efresh (n : Nat) : E := ⟨List.replicate n zero128, [], false, 0, 0, 0⟩
theorem sim_fresh (n : Nat) : Sim (Dv.fresh n) (efresh n) := ⟨fresh_ok n, rfl, fun i => rfl, fun p hp => (by cases hp), rfl, rfl, rfl, rfl, (by simp [efresh]), fun h => (by cases h)⟩
/-- The reference, k sectors laid. -/
structure Laid (w0 w : World) (g : Nat) (vs : Value) (k : Nat) : Prop where
  blk : w.heap[g]? = some (.cells #[vs, .slice none 0 0, .bool false, .int .i64 0, .int .i64 0, .int .i64 0] 81 (0, 0))
  row : w.ownsRow w0.heap.size 9 1 vs k (pw_strs (List.replicate k zero128))
  base : w0.heap.size ≤ g
  below : Below w0.heap.size w0 w
theorem Laid.ne {w0 w : World} {g : Nat} {vs : Value} {k : Nat} (h : Laid w0 w g vs k) (b : Nat) (hb : vs.ownBlock = some b) : b ≠ g := by
  obtain ⟨c, hc⟩ := own_in h.row hb
  exact blk_ne hc h.blk (by decide)
theorem Laid.done {w0 w : World} {g : Nat} {vs : Value} {k : Nat} (h : Laid w0 w g vs k) (h1 : 1 ≤ k) (h2 : k ≤ 2048) : ∃ y, EAt w (fun b => w0.heap.size ≤ b) g (efresh k) y := by
  obtain ⟨hb, ho, hg, hw⟩ := h
  have hl : (List.replicate k zero128).length = k := by simp
  rcases ho.2 with ⟨_, h0⟩ | ⟨L, cap, cur, rfl, hbL, hL, hc, hm, hs, ht⟩
  · omega
  · refine ⟨⟨L, cap, cur.toList.drop k, .slice none 0 0⟩, ?_⟩
    exact {
      blk := by unfold E.cells efresh; simpa using hb
      sec := by
        unfold Strs
        rw [hL]
        congr 2
        rw [show (efresh k).sector = List.replicate k zero128 from rfl, ← ht, Nat.mul_one, List.take_append_drop]
      row := ⟨rfl, .inl ⟨rfl, rfl⟩⟩
      okg := hg
      okL := hbL
      okR := fun b hb => by cases hb
      len := by simp [efresh]; exact h2
      few := Nat.zero_le _
      inr := fun p hp => by cases hp }
theorem Laid.next {w0 w w2 : World} {g : Nat} {vs : Value} {k g1 cap : Nat} (h : Laid w0 w g vs k) (ho : w2.ownsRow w0.heap.size 9 1 (.slice (some ⟨g1, 0, none⟩) (k + 1) cap) (k + 1) (pw_strs (List.replicate k zero128) ++ [.string zero128])) (hb : Below w0.heap.size w0 w2) (hh : w2.heap[g]? = w.heap[g]?) :
    Laid w0 (w2.setCell ⟨g, 0, none⟩ (.slice (some ⟨g1, 0, none⟩) (k + 1) cap)) g (.slice (some ⟨g1, 0, none⟩) (k + 1) cap) (k + 1) := by
  have hb2 := hh.trans h.blk
  refine ⟨blk_put hb2 0 _ rfl, ?_, h.base, below_set hb h.base⟩
  have e : pw_strs (List.replicate (k + 1) zero128) = pw_strs (List.replicate k zero128) ++ [.string zero128] := by rw [List.replicate_succ']; simp [pw_strs]
  rw [e]
  exact own_move ho (fun b hb => by
    cases hb
    obtain ⟨c, hc⟩ := own_in ho rfl
    exact Below.heap_setCell w2 ⟨g, 0, none⟩ _ _ (blk_ne hc hb2 (by decide)))
/-- What New hands back. -/
def ENew (n : Nat) (w : World) (e : Ending) (w' : World) : Prop := ∃ g y, e = .returned (.tuple #[.pointer (some ⟨g, 0, none⟩), .int .i64 0]) ∧ EAt w' (fun k => w.heap.size ≤ k) g (efresh n) y ∧ Below w.heap.size w w'
set_option maxHeartbeats 4000000 in
set_option maxRecDepth 1000000 in
theorem enew_no (n : Int) (hn : n < 1 ∨ 2048 < n) (w : World) : Calls Try.prog 61 #[.int .i64 n] w (Say (.tuple #[.pointer none, .int .i64 1]) w) := by
  by_cases h : n < 1
  · have a2 : decide (n < 1) = true := decide_eq_true h
    clear hn
    go_enter Try.func61, Try.ntmps61
    go_wp2_with fail
    go_ret2
    exact ⟨rfl, rfl⟩
  · have a1 : 2048 < n := by omega
    have a2 : decide (2048 < n) = true := decide_eq_true a1
    have a3 : decide (n < 1) = false := decide_eq_false h
    clear hn
    go_enter Try.func61, Try.ntmps61
    go_wp2_with fail
    go_ret2
    exact ⟨rfl, rfl⟩
set_option maxHeartbeats 4000000 in
set_option maxRecDepth 1000000 in
theorem enew_calls (n : Nat) (h1 : 1 ≤ n) (hn : n ≤ 2048) (w : World) : Calls Try.prog 61 #[.int .i64 (n : Int)] w (ENew n w) := by
  have a1 : ¬ (n : Int) < 1 := by omega
  have a2 : decide ((n : Int) < 1) = false := decide_eq_false a1
  have a3 : ¬ (2048 : Int) < (n : Int) := by omega
  have a4 : decide ((2048 : Int) < (n : Int)) = false := decide_eq_false a3
  obtain ⟨Z, hZ, hO⟩ := make_bytes
  have hcv : ∀ w : World, (convert 134 9 (.slice (some ⟨w.heap.size, 0, none⟩) 128 128)).run Try.prog (w.alloc (.cells Z 5)) = .ok (.string zero128) (w.alloc (.cells Z 5)) := fun w => by rw [own_string Try.underlying134 Try.underlying5 Try.underlying9 (hO w)]; rw [← sec_zero]; rfl
  have hcv2 : ∀ w : World, (convert 134 9 (.slice (some ⟨w.heap.size, 0, none⟩) 128 128)).run Try.prog ((w.alloc (.cells Z 5)).drew) = .ok (.string zero128) ((w.alloc (.cells Z 5)).drew) := fun w => hcv w.drew
  clear hO
  have HL0 := Aside0.mk (show Laid w (w.alloc (.cells #[.slice none 0 0, .slice none 0 0, .bool false, .int .i64 0, .int .i64 0, .int .i64 0] 81)) w.heap.size (.slice none 0 0) 0 from
    ⟨blk_new _ _, ⟨rfl, .inl ⟨rfl, rfl⟩⟩, Nat.le_refl _, below_alloc (Below.refl _ _) _⟩)
  go_enter Try.func61, Try.ntmps61
  go_wp2_with fail
  go_loopg [5] n (fun kx v5 wr => ∃ (k : Nat) (vs : Value), v5 = .int .i64 k ∧ k ≤ n ∧ n - k ≤ kx ∧ Aside0 (Laid w wr w.heap.size vs k))
  case atStart => exact ⟨0, _, rfl, Nat.zero_le _, by omega, HL0⟩
  case round =>
    clear HL0
    obtain ⟨k, vs, rfl, hk, hkk, HL⟩ := hrel
    by_cases hgo : k < n
    · have b1 : (k : Int) < (n : Int) := by omega
      have b2 : decide ((k : Int) < (n : Int)) = true := decide_eq_true b1
      have w9 : IntKind.i64.wrap ((k : Int) + 1) = (k : Int) + 1 := by rw [IntKind.wrap_i64]; omega
      have hlt := blk_lt HL.out.blk
      go_wp2_with fail
      have za : wr.cell? ⟨w.heap.size, 0, none⟩ = some vs := (blk_cell HL.out.blk 0).trans rfl
      have hA : ∀ o : Obj, (wr.alloc o).heap[w.heap.size]? = wr.heap[w.heap.size]? := fun o => Below.heap_alloc _ _ _ hlt
      have hA2 : ∀ o o' : Obj, ((wr.alloc o).alloc o').heap[w.heap.size]? = wr.heap[w.heap.size]? := fun o o' => (Below.heap_alloc _ _ _ (by simp; omega)).trans (hA o)
      have zb : ((wr.alloc (.cells Z 5)).drew).cell? ⟨w.heap.size, 0, none⟩ = some vs := (World.cell?_of_block (w := wr) (a := ⟨w.heap.size, 0, none⟩) (hA _)).trans za
      have zc : (((wr.alloc (.cells Z 5)).alloc (.cells #[.string zero128] 9)).drew).cell? ⟨w.heap.size, 0, none⟩ = some vs := (World.cell?_of_block (w := wr) (a := ⟨w.heap.size, 0, none⟩) (hA2 _ _)).trans za
      have HOw := Aside0.mk (show ((wr.alloc (.cells Z 5)).drew).ownsRow w.heap.size 9 1 vs k (pw_strs (List.replicate k zero128)) from own_move HL.out.row (fun b hb => by obtain ⟨c, hc⟩ := own_in HL.out.row hb; exact Below.heap_alloc _ _ _ (blk_lt hc)))
      have HBw := Aside0.mk (show Below w.heap.size w ((wr.alloc (.cells Z 5)).drew) from (below_alloc HL.out.below _).drew)
      go_region_law (refine step_append_cells (w0 := w) (W := (wr.alloc (.cells Z 5)).drew) w.heap.size rfl (.tmp 23) (.tmp 26) 64 9 (.string ByteArray.empty) 1 16 rfl Try.underlying64 info9 rfl (by decide) (by decide) vs _ _ [.string zero128] (by simp [Act.eval, Act.put]) (by simp [Act.eval, Act.put]) rfl (by simp [Value.oneCell']) HOw.out HBw.out HBw.out.size (by omega) ?_; intro v1 w2 hown hb hg hat; obtain ⟨g1, cap1, rfl, hg1, hg2⟩ := hown.form (by omega); have hh2 : w2.heap[w.heap.size]? = wr.heap[w.heap.size]? := (hg.block w.heap.size (by simp [World.drew]; omega) (fun e => HL.out.ne _ e.symm rfl)).trans (hA _); have z2 : w2.cell? ⟨w.heap.size, 0, none⟩ = some vs := (World.cell?_of_block (w := wr) (a := ⟨w.heap.size, 0, none⟩) hh2).trans za; have f2 : w2.frozen? ⟨w.heap.size, 0, none⟩ = false := (World.frozen?_of_block (w := wr) (a := ⟨w.heap.size, 0, none⟩) hh2).trans (blk_frozen HL.out.blk 0); have OW := Aside0.mk hown; have HB2 := Aside0.mk hb; have HH2 := Aside0.mk hh2; clear hown hb hg hat hh2)
      all_goals
        have HLn := Aside0.mk (HL.out.next OW.out HB2.out HH2.out)
        clear OW HB2 HH2 HOw HBw HL
        go_wp2_with fail
        go_roundg (n - (k + 1))
        case measure => omega
        case rel => exact ⟨k + 1, _, rfl, by omega, Nat.le_refl _, HLn⟩
    · obtain rfl : k = n := by omega
      have b1 : ¬ (k : Int) < (k : Int) := by omega
      have b2 : decide ((k : Int) < (k : Int)) = false := decide_eq_false b1
      clear hgo
      go_wp2_with fail
      go_ret2
      obtain ⟨y, hy⟩ := HL.out.done h1 hn
      exact ⟨w.heap.size, y, rfl, hy, HL.out.below⟩
end Go.Proofs.Ytjbkkmgkckopdaa.Dv
