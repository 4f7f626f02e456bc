/- Of memory: what may have turned; a row of strings; a map whose keys are whole numbers: looked into, written, ranged over. No function of the program. -/
import Derived.Test.YtjbkkmgkckopdaaDoorProg
import Derived.Below
import Derived.WalkKit
import Derived.ProofKit
import Derived.KernelRfl
import Derived.MapKept
import Derived.Deep.LoopGhost
import Derived.Deep.Draws
import Derived.Deep.QuietTactic
import Derived.BigQuiet
import Derived.BigRegion
import Derived.LoopN
import Derived.Test.YtjbkkmgkckopdaaDoorWWords
namespace Go.Proofs.YtjbkkmgkckopdaaDoor.Mem
open Go.RowKit Go.Proofs.YtjbkkmgkckopdaaDoorW.PrintWords
set_option linter.unusedVariables false
set_option linter.unusedSimpArgs false
/-- Of what was there only blocks that are ok may have turned. -/
structure Turn (ok : Nat → Prop) (w w' : World) : Prop where
  os : w'.os = w.os
  tape : w'.tape = w.tape
  output : w'.output = w.output
  size : w.heap.size ≤ w'.heap.size
  block : ∀ k, k < w.heap.size → ¬ ok k → w'.heap[k]? = w.heap[k]?
section
variable {ok ok1 : Nat → Prop} {w w1 w2 : World}
theorem Turn.refl (ok : Nat → Prop) (w : World) : Turn ok w w := ⟨rfl, rfl, rfl, Nat.le_refl _, fun _ _ _ => rfl⟩
theorem Turn.trans (h : Turn ok w w1) (k : Turn ok1 w1 w2) (hk : ∀ i, i < w.heap.size → ok1 i → ok i) : Turn ok w w2 :=
  ⟨k.os.trans h.os, k.tape.trans h.tape, k.output.trans h.output, Nat.le_trans h.size k.size, fun i hi hn => (k.block i (Nat.lt_of_lt_of_le hi h.size) (fun h1 => hn (hk i hi h1))).trans (h.block i hi hn)⟩
theorem Turn.mono (h : Turn ok w w1) (hk : ∀ i, ok i → ok1 i) : Turn ok1 w w1 := ⟨h.os, h.tape, h.output, h.size, fun i hi hn => h.block i hi (fun h1 => hn (hk i h1))⟩
theorem Turn.of_below (h : Below w.heap.size w w1) (ok : Nat → Prop) : Turn ok w w1 := ⟨h.os, h.tape, h.output, h.size, fun k hk _ => h.block k hk⟩
theorem Turn.of_grown {row : Option Nat} (h : w.grownBy w1 row) (hr : ∀ k, row = some k → ok k ∨ w.heap.size ≤ k) : Turn ok w w1 :=
  ⟨h.os, h.tape, h.output, h.size, fun k hk hn => h.block k hk (fun e => by rcases hr k e.symm with h1 | h1; exact hn h1; omega)⟩
theorem Turn.drewN (h : Turn ok w w1) (n : Nat) : Turn ok w (w1.drewN n) := ⟨h.os, h.tape, h.output, h.size, h.block⟩
theorem Turn.drew (h : Turn ok w w1) : Turn ok w w1.drew := ⟨h.os, h.tape, h.output, h.size, h.block⟩
theorem Turn.alloc (h : Turn ok w w1) (o : Obj) : Turn ok w (w1.alloc o) := h.trans (ok1 := fun _ => False) (Turn.of_below (below_alloc (Below.refl _ _) o) _) (fun _ _ h => h.elim)
theorem Turn.set (h : Turn ok w w1) {p : Addr} (hp : ok p.block ∨ w.heap.size ≤ p.block) (u : Value) : Turn ok w (w1.setCell p u) :=
  ⟨h.os, h.tape, h.output, by simpa [World.setCell] using h.size, fun k hk hn => (Below.heap_setCell w1 p u k (by rintro rfl; rcases hp with h1 | h1; exact hn h1; omega)).trans (h.block k hk hn)⟩
/-- An object laid in the place of another. -/
def put (w : World) (b : Nat) (o : Obj) : World := { w with heap := w.heap.setIfInBounds b o }
theorem put_heap {w : World} {b : Nat} (hb : b < w.heap.size) (o : Obj) : (put w b o).heap[b]? = some o := by simp [put, Array.getElem?_setIfInBounds, hb]
theorem put_other (w : World) {b k : Nat} (o : Obj) (h : k ≠ b) : (put w b o).heap[k]? = w.heap[k]? := by
  simp only [put, Array.getElem?_setIfInBounds]
  rw [if_neg (fun e => h e.symm)]
theorem put_size (w : World) (b : Nat) (o : Obj) : (put w b o).heap.size = w.heap.size := by simp [put]
theorem Turn.put (h : Turn ok w w1) {b : Nat} (hp : ok b ∨ w.heap.size ≤ b) (o : Obj) : Turn ok w (Mem.put w1 b o) :=
  ⟨h.os, h.tape, h.output, by rw [put_size]; exact h.size, fun k hk hn => (put_other w1 o (by rintro rfl; rcases hp with h1 | h1; exact hn h1; omega)).trans (h.block k hk hn)⟩
theorem Turn.below {B : Nat} (h : Turn ok w w1) (hb : ∀ k, k < w.heap.size → ok k → B ≤ k) (hB : B ≤ w.heap.size) : Below B w w1 :=
  ⟨h.os, h.tape, h.output, h.size, fun k hk => h.block k (by omega) (fun h1 => by have := hb k (by omega) h1; omega)⟩
theorem Turn.cell (h : Turn ok w w1) {p : Addr} {v : Value} (hc : w.cell? p = some v) (hn : ¬ ok p.block) : w1.cell? p = some v :=
  (World.cell?_of_block (h.block p.block (World.block_lt_of_cell? w p hc) hn)).trans hc
end
/-- A block g holds the strings xs, and behind them some spare cells. -/
def Strs (w : World) (g : Nat) (xs : List ByteArray) (rest : List Value) : Prop := w.heap[g]? = some (.cells (pw_strs xs ++ rest).toArray 9 (0, 0))
theorem Strs.cell {w : World} {g : Nat} {xs : List ByteArray} {rest : List Value} (h : Strs w g xs rest) (i : Nat) (hi : i < xs.length) : w.cell? ⟨g, i, none⟩ = some (.string xs[i]) := by
  rw [blk_cell h i]
  simp [pw_strs, List.getElem?_append, hi]
theorem Strs.set {w : World} {g : Nat} {xs : List ByteArray} {rest : List Value} (h : Strs w g xs rest) (i : Nat) (hi : i < xs.length) (s : ByteArray) : Strs (w.setCell ⟨g, i, none⟩ (.string s)) g (xs.set i s) rest := by
  unfold Strs
  rw [blk_set h i _]
  simp [pw_strs, List.set_append, hi, List.map_set]
theorem Strs.frozen {w : World} {g : Nat} {xs : List ByteArray} {rest : List Value} (h : Strs w g xs rest) (i : Nat) : w.frozen? ⟨g, i, none⟩ = false := blk_frozen h i

/-! ### a map whose keys are whole numbers -/
/-- An entry: its key, its value, its stamp. -/
structure Ent where
  key : Int
  val : Value
  born : Nat
def Ent.entry (e : Ent) : MapEntry := { key := .int .i64 e.key, val := e.val, born := e.born }
def ents (l : List Ent) : Array MapEntry := (l.map Ent.entry).toArray
def IMap (w : World) (M : Nat) (l : List Ent) (clock : Nat) : Prop := w.heap[M]? = some (.map (ents l) clock)
/-- What is found at a key. -/
def seek (l : List Ent) (x : Int) : Option (Nat × Value) := match l with
  | [] => none
  | e :: r => if e.key = x then some (0, e.val) else (seek r x).map (fun p => (p.1 + 1, p.2))
theorem findNow_ents (x : Int) : ∀ (l : List Ent) (i : Nat), Instr.findNow (.int .i64) (.int .i64 x) (l.map Ent.entry) i = some ((seek l x).map (fun p => (p.1 + i, p.2)))
  | [], i => rfl
  | e :: r, i => by
    rw [List.map_cons, Instr.findNow]
    have h : Instr.sameNow (.int .i64) (.int .i64 x) (Ent.entry e).key = some (x == e.key) := by simp [Instr.sameNow, Ent.entry]
    rw [h, seek]
    by_cases hx : x = e.key
    · subst hx
      simp [Ent.entry]
    · have hx' : (x == e.key) = false := beq_eq_false_iff_ne.mpr hx
      rw [hx', if_neg (fun h => hx h.symm)]
      simp only [findNow_ents x r (i + 1), Option.map_map]
      congr 1
      cases seek r x with
      | none => rfl
      | some p => simp; omega
section
variable {P : Program} {w : World} {M clock : Nat} {l : List Ent} {T K E : TypeId}
theorem run_findKey (hk : P.underlying K = some (.int .i64)) (x : Int) (w : World) : (Instr.findKey K (.int .i64 x) (l.map Ent.entry)).run P w = .ok (seek l x) w := by
  unfold Instr.findKey
  simp only [Sem.run_bind, run_underlying hk, Result.andThen_ok, findNow_ents]
  cases seek l x <;> simp
theorem run_checkKey (hk : P.underlying K = some (.int .i64)) (b : Bool) (x : Int) (n : Nat) (w : World) : (Instr.checkKey b (n + 1) K (.int .i64 x)).run P w = .ok () w := by
  unfold Instr.checkKey
  simp only [Sem.run_bind, run_underlying hk, Result.andThen_ok]
  rfl
/-- 'm[x]'. -/
theorem run_lookup (h : IMap w M l clock) (ht : P.underlying T = some (.map K E)) (hk : P.underlying K = some (.int .i64)) {z : Value} (hz : ∀ w, (zeroValue E).run P w = .ok z w) (x : Int) :
    (Instr.lookup T (.map (some M)) (.int .i64 x) false).run P w = .ok (match seek l x with | some p => p.2 | none => z) w := by
  have hg := MapKept.run_getObj_map (P := P) h
  unfold Instr.lookup
  simp only [Sem.run_bind, run_underlying ht, Result.andThen_ok, hg, Sem.run_pure, run_checkKey hk, ents, List.toList_toArray, run_findKey hk]
  cases hs : seek l x with
  | none => simp [hz]
  | some p => simp
/-- The entries, another value at a key that is there. -/
def upd (l : List Ent) (x : Int) (v : Value) : List Ent := match l with
  | [] => []
  | e :: r => if e.key = x then { e with val := v } :: r else e :: upd r x v
theorem modify_ents (x : Int) (v : Value) : ∀ (l : List Ent) (i : Nat) (u : Value), seek l x = some (i, u) →
    (l.map Ent.entry).modify i (fun e => { e with key := .int .i64 x, val := v }) = (upd l x v).map Ent.entry
  | [], i, u, h => by cases h
  | e :: r, i, u, h => by
    rw [seek] at h
    by_cases hx : e.key = x
    · rw [if_pos hx] at h
      injection h with h
      injection h with h1 h2
      subst h1
      rw [upd, if_pos hx]
      simp [Ent.entry, hx]
    · rw [if_neg hx] at h
      cases hs : seek r x with
      | none => rw [hs] at h; cases h
      | some p =>
        rw [hs] at h
        injection h with h
        injection h with h1 h2
        subst h1
        rw [upd, if_neg hx, List.map_cons, List.modify_succ_cons, modify_ents x v r p.1 p.2 hs, List.map_cons]
theorem seek_some_at : ∀ (l : List Ent) (x : Int) (i : Nat) (u : Value), seek l x = some (i, u) → ∃ e, l[i]? = some e ∧ e.key = x ∧ e.val = u
  | [], x, i, u, h => by cases h
  | e :: r, x, i, u, h => by
    rw [seek] at h
    by_cases hx : e.key = x
    · rw [if_pos hx] at h
      injection h with h
      injection h with h1 h2
      subst h1
      exact ⟨e, rfl, hx, h2⟩
    · rw [if_neg hx] at h
      cases hs : seek r x with
      | none => rw [hs] at h; cases h
      | some p =>
        rw [hs] at h
        injection h with h
        injection h with h1 h2
        subst h1
        obtain ⟨e', h3, h4, h5⟩ := seek_some_at r x p.1 p.2 hs
        exact ⟨e', by simpa using h3, h4, h5.trans h2⟩
/-- The entries behind 'm[x] = v'; the next stamp. -/
def stored (l : List Ent) (clock : Nat) (x : Int) (v : Value) : List Ent × Nat := match seek l x with
  | some _ => (upd l x v, clock)
  | none => (l ++ [⟨x, v, clock⟩], clock + 1)
/-- 'm[x] = v'. -/
theorem run_mapUpdate (h : IMap w M l clock) (ht : P.underlying T = some (.map K E)) (hk : P.underlying K = some (.int .i64)) (x : Int) (v : Value) :
    (Instr.mapUpdate T (.map (some M)) (.int .i64 x) v).run P w = .ok () (put w M (.map (ents (stored l clock x v).1) (stored l clock x v).2)) := by
  have hg := MapKept.run_getObj_map (P := P) h
  have hst := fun o => MapKept.run_setObj_map (P := P) o h
  unfold Instr.mapUpdate
  simp only [Sem.run_bind, run_underlying ht, Result.andThen_ok, hg, Sem.run_pure, run_checkKey hk]
  have hl : (ents l).toList = l.map Ent.entry := by simp [ents]
  rw [hl, run_findKey hk]
  unfold stored
  cases hs : seek l x with
  | none =>
    simp only [Result.andThen_ok, hst]
    show Result.ok () _ = Result.ok () _
    congr 2
    simp [ents, Ent.entry, Mem.put]
  | some p =>
    obtain ⟨e, h1, h2, h3⟩ := seek_some_at l x p.1 p.2 hs
    have h4 : (ents l)[p.1]? = some e.entry := by simp [ents, h1]
    have hb : Instr.sameBits 10000 (Ent.entry e).key (.int .i64 x) = true := by simp [Instr.sameBits, Ent.entry, h2]
    simp only [Result.andThen_ok, h4, Option.map_some, Option.getD_some, Instr.keyThatStays, hb, if_true, Sem.run_bind, Sem.run_pure, hst]
    have h5 : (ents l).modify p.1 (fun e => { e with key := .int .i64 x, val := v }) = ents (upd l x v) := by
      apply Array.toList_inj.1
      rw [Array.toList_modify, hl, modify_ents x v l p.1 p.2 hs]
      simp [ents]
    rw [h5]
    rfl
/-- An iterator over the map M: the stamps that it has met. -/
def Iter (w : World) (r M clock : Nat) (seen : List Nat) : Prop := w.heap[r]? = some (.mapIter (some M) clock seen.toArray clock)
theorem run_range (h : IMap w M l clock) (ht : P.underlying T = some (.map K E)) :
    (Instr.range T (.map (some M))).run P w = .ok (.pointer (some ⟨w.heap.size, 0, none⟩)) (w.alloc (.mapIter (some M) clock #[] clock)) := by
  have hg := MapKept.run_getObj_map (P := P) h
  unfold Instr.range
  simp only [Sem.run_bind, run_underlying ht, Result.andThen_ok, hg, Sem.run_pure, run_newObj_alloc]
theorem run_getObj_iter {r : Nat} {seen : List Nat} (h : Iter w r M clock seen) : (getObj r).run P w = .ok (.mapIter (some M) clock seen.toArray clock) w := by
  have h' : w.heap[r]? = some (.mapIter (some M) clock seen.toArray clock) := h
  simp [getObj, Sem.run, h']
theorem run_setObj_iter {r : Nat} {seen : List Nat} (h : Iter w r M clock seen) (o : Obj) : (setObj r o).run P w = .ok () (put w r o) := by
  have h' : w.heap[r]? = some (.mapIter (some M) clock seen.toArray clock) := h
  simp [setObj, Sem.run, h', Mem.put]
/-- The entries that are still to come. -/
def left (l : List Ent) (seen : List Nat) : List Ent := l.filter (fun e => !seen.contains e.born)
theorem filter_ents (l : List Ent) (p : MapEntry → Bool) : (ents l).filter p = ents (l.filter (fun e => p e.entry)) := by
  apply Array.toList_inj.1
  simp [ents, List.filter_map, Function.comp_def]
theorem left_eq (l : List Ent) (seen : List Nat) : (ents l).filter (fun e => !seen.toArray.contains e.born) = ents (left l seen) := by
  rw [filter_ents]
  congr 1
  simp [left, Ent.entry]
theorem old_eq {l : List Ent} {clock : Nat} (hb : ∀ e ∈ l, e.born < clock) : (ents l).filter (fun e => decide (e.born < clock)) = ents l := by
  rw [filter_ents]
  congr 1
  rw [List.filter_eq_self]
  intro e he
  exact decide_eq_true (hb e he)
theorem new_eq {l : List Ent} {clock : Nat} (hb : ∀ e ∈ l, e.born < clock) : (ents l).filter (fun e => decide (e.born ≥ clock)) = #[] := by
  rw [filter_ents]
  have : l.filter (fun e => decide (e.entry.born ≥ clock)) = [] := by
    rw [List.filter_eq_nil_iff]
    intro e he
    have := hb e he
    simp [Ent.entry]; omega
  rw [this]; rfl
theorem left_lt {l : List Ent} {clock : Nat} (hb : ∀ e ∈ l, e.born < clock) (seen : List Nat) : ∀ e ∈ left l seen, e.born < clock := fun e he => hb e (List.mem_filter.1 he).1
theorem all_old {l : List Ent} {clock : Nat} (hb : ∀ e ∈ l, e.born < clock) : (!(ents l).isEmpty && (ents l).all (fun e => decide (e.born ≥ clock))) = false := by
  cases l with
  | nil => simp [ents]
  | cons e r =>
    have := hb e List.mem_cons_self
    simp [ents, Ent.entry]
    omega
theorem run_next_end {r : Nat} {seen : List Nat} (h : IMap w M l clock) (hi : Iter w r M clock seen) (hb : ∀ e ∈ l, e.born < clock) (hl : left l seen = []) (t : TypeId) :
    (Instr.next (.pointer (some ⟨r, 0, none⟩)) false t).run P w = .ok (.tuple #[.bool false]) w := by
  have hg := MapKept.run_getObj_map (P := P) h
  have hgi := run_getObj_iter (P := P) hi
  unfold Instr.next
  simp only [Sem.run_bind, Result.andThen_ok, hgi, hg, Sem.run_pure]
  have hA : (!seen.toArray.isEmpty && !(ents l).isEmpty && (ents l).all (fun e => decide (e.born ≥ clock))) = false := by rw [Bool.and_assoc, all_old hb, Bool.and_false]
  simp only [hA, Bool.false_eq_true, if_false, left_eq, hl]
  simp [ents, choose, Sem.run, Question.forced]
/-- The next entry, whichever it is. -/
theorem run_next {r : Nat} {seen : List Nat} (h : IMap w M l clock) (hi : Iter w r M clock seen) (hb : ∀ e ∈ l, e.born < clock) (hl : left l seen ≠ []) (t : TypeId) :
    ∃ e ∈ left l seen, ∃ n, (Instr.next (.pointer (some ⟨r, 0, none⟩)) false t).run P w = .ok (.tuple #[.bool true, .int .i64 e.key, e.val]) (put (w.drewN n) r (.mapIter (some M) clock (seen ++ [e.born]).toArray clock)) := by
  have hg := MapKept.run_getObj_map (P := P) h
  have hgi := run_getObj_iter (P := P) hi
  have hset := fun (n : Nat) (o : Obj) => run_setObj_iter (P := P) (w := w.drewN n) (show Iter (w.drewN n) r M clock seen from hi) o
  have hA : (!seen.toArray.isEmpty && !(ents l).isEmpty && (ents l).all (fun e => decide (e.born ≥ clock))) = false := by rw [Bool.and_assoc, all_old hb, Bool.and_false]
  have hne : (ents (left l seen)).isEmpty = false := by
    cases hq : left l seen with
    | nil => exact absurd hq hl
    | cons a b => simp [ents]
  have hsz : (ents (left l seen)).size = (left l seen).length := by simp [ents]
  have hpos : 0 < (left l seen).length := List.length_pos_iff.2 hl
  unfold Instr.next
  simp only [Sem.run_bind, Result.andThen_ok, hgi, hg, Sem.run_pure, hA, Bool.false_eq_true, if_false, left_eq, old_eq (left_lt hb seen), new_eq (left_lt hb seen), hne, Array.append_empty, Array.empty_append]
  simp only [Array.size_map, hsz]
  obtain ⟨i, hi', n, hch⟩ : ∃ i, i < (left l seen).length ∧ ∃ n, (choose (Question.mapNext (left l seen).length)).run P w = .ok i (w.drewN n) := by
    by_cases h1 : (left l seen).length ≤ 1
    · exact ⟨0, hpos, 0, by simp [choose, Sem.run, Question.forced, h1]; rfl⟩
    · exact ⟨_, Nat.mod_lt (w.tape w.drawn (Question.mapNext (left l seen).length)) hpos, 1, by simp [choose, Sem.run, Question.forced, h1, Question.cut]; rfl⟩
  have hget : (Array.map some (ents (left l seen)))[i]? = some (some (left l seen)[i].entry) := by simp [ents, hi']
  refine ⟨(left l seen)[i], List.getElem_mem hi', n, ?_⟩
  simp only [hch, Result.andThen_ok, hget, Sem.run_bind, hset, Sem.run_pure]
  simp [Ent.entry]
theorem run_entry {r : Nat} {seen : List Nat} {e : Ent} (h : IMap w M l clock) (hi : Iter w r M clock (seen ++ [e.born])) (he : e ∈ l) (hn : (l.map (·.born)).Nodup) :
    (Instr.entry (.pointer (some ⟨r, 0, none⟩))).run P w = .ok (.tuple #[.int .i64 e.key, e.val]) w := by
  have hg := MapKept.run_getObj_map (P := P) h
  have hgi := run_getObj_iter (P := P) hi
  have hback : (seen ++ [e.born]).toArray.back? = some e.born := by simp
  have hfind : (ents l).find? (fun x => x.born == e.born) = some e.entry := by
    rw [ents, List.find?_toArray]
    clear h hg hi hgi hback
    induction l with
    | nil => cases he
    | cons a b ih =>
      simp only [List.map_cons, List.nodup_cons] at hn
      rw [List.map_cons, List.find?_cons]
      rcases List.mem_cons.1 he with rfl | he
      · simp [Ent.entry]
      · have : a.born ≠ e.born := fun e1 => hn.1 (by rw [e1]; exact List.mem_map.2 ⟨e, he, rfl⟩)
        have h2 : ((Ent.entry a).born == e.born) = false := beq_eq_false_iff_ne.mpr this
        rw [h2]
        exact ih he hn.2
  unfold Instr.entry
  simp only [Sem.run_bind, Result.andThen_ok, hgi, hg, Sem.run_pure, hback, hfind, bne_self_eq_false, Bool.false_eq_true, if_false]
  simp [Ent.entry]
end
end Go.Proofs.YtjbkkmgkckopdaaDoor.Mem
