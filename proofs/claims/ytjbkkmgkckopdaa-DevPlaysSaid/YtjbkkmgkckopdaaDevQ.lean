/- DevLasts: the device beside the row of what may last; the plain law. -/
import Derived.Test.YtjbkkmgkckopdaaDevP
import Derived.Test.YtjbkkmgkckopdaaDevN
namespace Go.Proofs.Ytjbkkmgkckopdaa.Dv
open Go.WideShapes (bytes_inj)
open Go.RowKit Go.Proofs.YtjbkkmgkckopdaaW.PrintWords Go.Proofs.YtjbkkmgkckopdaaW.PrintLast Go.Proofs.YtjbkkmgkckopdaaW.PrintMore Go.Proofs.Ytjbkkmgkckopdaa.Mem
set_option linter.unusedVariables false
set_option linter.unusedSimpArgs false
/-- The device in new memory, block b not its own. -/
structure Beside (w0 w : World) (g : Nat) (d : D) (b : Nat) : Prop where
  at_ : ∃ ok y, DAt w ok g d y ∧ (∀ k, ok k → w0.heap.size ≤ k) ∧ ¬ ok b
  lt : b < w.heap.size
  base : w0.heap.size ≤ b
  below : Below w0.heap.size w0 w
/-- The device answers; block b is as it was. -/
def Went (w0 w : World) (g : Nat) (d : D) (b : Nat) (v : Value) (e : Ending) (w' : World) : Prop := e = .returned v ∧ Beside w0 w' g d b ∧ w'.heap[b]? = w.heap[b]?
section
variable {w0 w w' : World} {g : Nat} {d d' : D} {b : Nat}
theorem Beside.dev (h : Beside w0 w g d b) : Dev w0 w g d := by
  obtain ⟨ok, y, h1, h2, h3⟩ := h.at_
  exact ⟨⟨y, h1.move (fun _ _ _ => rfl) (fun k hk _ => h2 k hk)⟩, h.below⟩
theorem Beside.went (h : Beside w0 w g d b) {ok : Nat → Prop} (hk : ∀ k, ok k → w0.heap.size ≤ k) (hb : ¬ ok b) {v : Value} {e : Ending} (hd : Does ok g d' v w e w') : Went w0 w g d' b v e w' := by
  obtain ⟨h1, ⟨y, h2⟩, h3⟩ := hd
  have hs := h.below.size
  refine ⟨h1, ⟨⟨_, y, h2, fun k hk' => ?_, fun h4 => ?_⟩, Nat.lt_of_lt_of_le h.lt h3.size, h.base, h.below.trans (h3.below (fun k _ h => hk k h) hs)⟩, h3.block b h.lt hb⟩
  · rcases hk' with h5 | h5
    · exact hk k h5
    · exact Nat.le_trans hs h5
  · rcases h4 with h5 | h5
    · exact hb h5
    · have := h.lt; omega
theorem Beside.quiet (h : Beside w0 w g d b) (hb : Below w.heap.size w w') : Beside w0 w' g d b := by
  obtain ⟨ok, y, h1, h2, h3⟩ := h.at_
  exact ⟨⟨ok, y, h1.quiet hb, h2, h3⟩, Nat.lt_of_lt_of_le h.lt hb.size, h.base, h.below.trans (hb.mono h.below.size)⟩
/-- The row has grown. -/
theorem Beside.push (h : Beside w0 w g d b) (hg : w.grownBy w' (some b)) {b' : Nat} (hb : b' = b ∨ b' = w.heap.size) (hl : b' < w'.heap.size) : Beside w0 w' g d b' := by
  obtain ⟨ok, y, h1, h2, h3⟩ := h.at_
  have hlt := h.lt
  have hs := h.below.size
  refine ⟨⟨fun k => ok k ∧ k < w.heap.size, y, h1.move (fun k hk hl => hg.block k hl (fun e => by rw [Option.some.injEq] at e; rw [e] at hk; exact h3 hk)) (fun k hk hl => ⟨hk, hl⟩), fun k hk => h2 k hk.1, fun h4 => ?_⟩, hl, ?_, h.below.grown hg hs (fun k e => by cases e; exact h.base)⟩
  · rcases hb with rfl | rfl
    · exact h3 h4.1
    · exact Nat.lt_irrefl _ h4.2
  · rcases hb with rfl | rfl
    · exact h.base
    · exact hs
/-- A new row is laid. -/
theorem Dev.beside (h : Dev w0 w g d) (o : Obj) : Beside w0 (w.alloc o) g d w.heap.size := by
  obtain ⟨⟨y, h1⟩, h2⟩ := h
  exact ⟨⟨_, y, (h1.narrow).quiet (below_alloc (Below.refl _ w) o), fun k hk => hk.1, fun h3 => Nat.lt_irrefl _ h3.2⟩, by simp, h2.size, h2.trans ((below_alloc (Below.refl _ w) o).mono h2.size)⟩
theorem IntsAt.small {p : Option Addr} {xs : List Int} (h : IntsAt w0 p xs) (hb : Below w0.heap.size w0 w) {ok : Nat → Prop} (hk : ∀ k, ok k → w0.heap.size ≤ k) : Ints w ok p xs := fun j hj => by
  obtain ⟨a, h1, h2, h3⟩ := h.ints hb j hj
  exact ⟨a, h1, h2, fun h4 => h3 (hk _ h4)⟩
theorem Beside.act (h : Beside w0 w g d b) (a : A) (p : Option Addr) (pc : Nat) (hp : ActOk w0 a p) {k : Nat} (hbd : Bd d k) (hk : k < 1000000) : Calls Try.prog 50 #[.pointer (some ⟨g, 0, none⟩), .agg (a.cells p pc)] w (Went w0 w g (d.act a).1 b (.int .i64 (d.act a).2)) := by
  obtain ⟨ok, y, h1, h2, h3⟩ := h.at_
  exact (does_calls w h1 a p pc (hp.1.small h.below h2) hp.2.2 hbd hk).mono fun e w' hd => h.went h2 h3 hd
theorem Beside.cut (h : Beside w0 w g d b) : Calls Try.prog 53 #[.pointer (some ⟨g, 0, none⟩)] w (Went w0 w g d.cut.1 b (.int .i64 d.cut.2)) := by
  obtain ⟨ok, y, h1, h2, h3⟩ := h.at_
  exact (cut_calls w h1).mono fun e w' hd => h.went h2 h3 hd
theorem Beside.start (h : Beside w0 w g d b) (p : Option Addr) (picks : List Int) (pc : Nat) (hp : IntsAt w0 p picks) (hpl : picks.length ≤ 9223372036854775807) : Calls Try.prog 54 #[.pointer (some ⟨g, 0, none⟩), .slice p picks.length pc] w (Went w0 w g (d.start picks).1 b (.int .i64 (d.start picks).2)) := by
  obtain ⟨ok, y, h1, h2, h3⟩ := h.at_
  exact (start_calls w h1 p picks pc (hp.small h.below h2) hpl).mono fun e w' hd => h.went h2 h3 hd
end
/-! ### the plain law -/
/-- What may last of sector i. -/
structure Can (d : D) (i : Int) (may : List S) : Prop where
  ne : may ≠ []
  len : d.lasts.length = 4
  at_ : ∀ j : Nat, i = j → j < 4 → may = d.lasts.getD j ByteArray.empty :: look d.waits j
theorem Can.start (i : Int) : Can (Dv.fresh 4) i [zero128] := ⟨by simp, by simp [Dv.fresh], fun j _ hj => by
  have : j = 0 ∨ j = 1 ∨ j = 2 ∨ j = 3 := by omega
  rcases this with rfl | rfl | rfl | rfl <;> simp [Dv.fresh, look]⟩
theorem Can.same {d d' : D} {i : Int} {may : List S} (h : Can d i may) (h1 : d'.lasts = d.lasts) (h2 : d'.waits = d.waits) : Can d' i may := ⟨h.ne, by rw [h1]; exact h.len, fun j hj hl => by rw [h1, h2]; exact h.at_ j hj hl⟩
theorem step_same (d : D) : d.step.1.lasts = d.lasts ∧ d.step.1.waits = d.waits := by
  obtain ⟨k1, k2, _⟩ := step_keeps d
  exact ⟨k1, k2⟩
/-- A write that went on to this sector. -/
theorem Can.write {d : D} {i : Int} {may : List S} (h : Can d i may) (s : S) (he : (d.write i s).2 = 0) : Can (d.write i s).1 i (may ++ [s]) := by
  obtain ⟨k1, k2⟩ := step_same d
  unfold D.write at he ⊢
  split at he
  · exact absurd he (by simp)
  rename_i c
  rw [if_neg c]
  split at he
  · exact absurd he (by simp)
  rename_i c2
  rw [if_neg c2]
  refine ⟨by simp, by simp only [k1]; exact h.len, fun j hj hl => ?_⟩
  subst hj
  rw [h.at_ j rfl hl]
  simp [k1, k2, look_more]
/-- A write to another sector, or one that did not go on. -/
theorem Can.write_no {d : D} {i n : Int} {may : List S} (h : Can d i may) (s : S) (he : n ≠ i ∨ (d.write n s).2 ≠ 0) : Can (d.write n s).1 i may := by
  obtain ⟨k1, k2⟩ := step_same d
  unfold D.write at he ⊢
  split
  · exact h
  rename_i c
  rw [if_neg c] at he
  split
  · exact h.same k1 k2
  rename_i c2
  rw [if_neg c2] at he
  have hn : n ≠ i := by
    rcases he with he | he
    · exact he
    · exact absurd rfl he
  refine ⟨h.ne, by simp only [k1]; exact h.len, fun j hj hl => ?_⟩
  rw [h.at_ j hj hl]
  simp only [k1, k2, look_more]
  rw [if_neg (by omega)]
theorem Can.sync {d : D} {i : Int} {may : List S} (h : Can d i may) (he : d.sync.2 = 0) {n : Nat} (hn : may.length = n + 1) : Can d.sync.1 i [may[n]] := by
  obtain ⟨k1, k2⟩ := step_same d
  unfold D.sync at he ⊢
  split at he
  · exact absurd he (by simp)
  rename_i c
  rw [if_neg c]
  have hl := h.len
  refine ⟨by simp, by simp only [settle, List.length_mapIdx]; exact h.len, fun j hj hl4 => ?_⟩
  have h1 := h.at_ j hj hl4
  have h2 : may.getLast? = some may[n] := by rw [List.getLast?_eq_getElem?, show may.length - 1 = n by omega, List.getElem?_eq_getElem (by omega)]
  generalize may[n] = x at h2 ⊢
  subst h1
  simp only [look, settle]
  rw [List.getD_eq_getElem?_getD, List.getElem?_mapIdx, List.getElem?_eq_getElem (by omega)]
  rw [List.getD_eq_getElem?_getD, List.getElem?_eq_getElem (by omega)] at h2
  simp only [Option.map_some, Option.getD_some] at h2 ⊢
  cases hlk : look d.waits j with
  | nil =>
    rw [hlk] at h2
    simp at h2 ⊢
    exact h2.symm
  | cons y ys =>
    rw [hlk, List.getLast?_cons_cons] at h2
    rw [h2]
    rfl
theorem Can.sync_no {d : D} {i : Int} {may : List S} (h : Can d i may) (he : d.sync.2 ≠ 0) : Can d.sync.1 i may := by
  obtain ⟨k1, k2⟩ := step_same d
  unfold D.sync at he ⊢
  split
  · exact h.same k1 k2
  · rename_i c
    rw [if_neg c] at he
    exact absurd rfl he
theorem Can.begin {d : D} {i : Int} {may : List S} (h : Can d i may) (picks : List Int) (he : (d.start picks).2 = 0) : d.off = true ∧ Can (d.start picks).1 i [(d.start picks).1.last i] := by
  unfold D.start at he ⊢
  split at he
  · exact absurd he (by simp)
  rename_i c
  rw [if_neg c]
  refine ⟨by simpa using c, by simp, by simp only [start_len]; exact h.len, fun j hj hl => ?_⟩
  subst hj
  have hlen := h.len
  simp only [look, D.last, start_len]
  rw [if_neg (by omega)]
  simp
theorem Can.begin_no {d : D} {i : Int} {may : List S} (h : Can d i may) (picks : List Int) (he : (d.start picks).2 ≠ 0) : Can (d.start picks).1 i may := by
  unfold D.start at he ⊢
  split
  · exact h
  · rename_i c
    rw [if_neg c] at he
    exact absurd rfl he
theorem Can.fused {d : D} {i : Int} {may : List S} (h : Can d i may) (n : Int) : Can (d.fused n).1 i may := by
  unfold D.fused
  split
  · exact h
  · exact h.same rfl rfl
theorem Can.cut {d : D} {i : Int} {may : List S} (h : Can d i may) : Can d.cut.1 i may := by
  unfold D.cut
  split
  · exact h
  · exact h.same rfl rfl
/-- In the end: what lasts is one of them. -/
theorem Can.end_ {d : D} {j : Nat} {may : List S} (h : Can d (j : Int) may) (hj : j < 4) (ho : d.off = true) (picks : List Int) : (d.start picks).2 = 0 ∧ (d.start picks).1.wait j = 0 ∧ ∃ t, t < may.length ∧ may[t]? = some ((d.start picks).1.last j) := by
  have hlen := h.len
  unfold D.start
  rw [if_neg (by rw [ho]; decide)]
  refine ⟨rfl, ?_, ?_⟩
  · simp [D.wait, look]
  · have h1 := h.at_ j rfl hj
    simp only [D.last, start_len]
    rw [if_neg (by omega), List.getD_eq_getElem?_getD, Int.toNat_natCast, start_get, List.getElem?_eq_getElem (by omega)]
    rw [List.getD_eq_getElem?_getD, List.getElem?_eq_getElem (by omega)] at h1
    simp only [Option.map_some, Option.getD_some, Nat.zero_add] at h1 ⊢
    by_cases hw : look d.waits j = []
    · rw [if_pos hw]
      exact ⟨0, by rw [h1]; simp, by rw [h1]; rfl⟩
    · rw [if_neg hw]
      unfold kept
      generalize ((List.range' 0 j).filter (fun t => decide (look d.waits t ≠ []))).length = m
      split
      · exact ⟨0, by rw [h1]; simp, by rw [h1]; rfl⟩
      · rename_i hp
        have hlt : pick picks m (look d.waits j).length < (look d.waits j).length + 1 := by
          unfold pick
          split
          · omega
          · exact Nat.mod_lt _ (by omega)
        obtain ⟨q, hq⟩ : ∃ q, pick picks m (look d.waits j).length = q + 1 := ⟨pick picks m (look d.waits j).length - 1, by omega⟩
        rw [hq] at hlt ⊢
        refine ⟨q + 1, by rw [h1, List.length_cons]; omega, ?_⟩
        rw [h1, List.getElem?_cons_succ, Nat.add_sub_cancel, List.getD_eq_getElem?_getD, List.getElem?_eq_getElem (by omega)]
        rfl
theorem last_no {d : D} {i : Int} (hl : d.lasts.length = 4) (h : i < 0 ∨ 3 < i) : d.last i = ByteArray.empty := by
  unfold D.last
  rw [if_pos (by omega)]
end Go.Proofs.Ytjbkkmgkckopdaa.Dv
