/- The device, plainly: the program's (what waits, by sectors) and the reference's (one row of what waits) answer alike. -/
namespace Go.Proofs.YtjbkkmgkckopdaaDoor.Dv
set_option linter.unusedVariables false
set_option linter.unusedSimpArgs false
abbrev S := ByteArray
/-- The program's device: what lasts; what waits, by sectors (each once); the numbers. -/
structure D where
  lasts : List S
  waits : List (Nat × List S)
  off : Bool
  fuse : Int
  steps : Int
  writes : Int
/-- What waits of a sector. -/
def look (l : List (Nat × List S)) (i : Nat) : List S := match l with
  | [] => []
  | (k, xs) :: r => if k = i then xs else look r i
/-- One more waits. -/
def more (l : List (Nat × List S)) (i : Nat) (s : S) : List (Nat × List S) := match l with
  | [] => [(i, [s])]
  | (k, xs) :: r => if k = i then (k, xs ++ [s]) :: r else (k, xs) :: more r i s
structure D.Ok (d : D) : Prop where
  keys : (d.waits.map (·.1)).Nodup
  range : ∀ p ∈ d.waits, p.1 < d.lasts.length ∧ p.2 ≠ []
theorem look_none {l : List (Nat × List S)} {i : Nat} (h : i ∉ l.map (·.1)) : look l i = [] := by
  induction l with
  | nil => rfl
  | cons p r ih =>
    obtain ⟨k, xs⟩ := p
    simp only [List.map_cons, List.mem_cons, not_or] at h
    rw [look, if_neg (fun e => h.1 e.symm), ih h.2]
theorem look_mem {l : List (Nat × List S)} (hn : (l.map (·.1)).Nodup) {i : Nat} {xs : List S} (h : (i, xs) ∈ l) : look l i = xs := by
  induction l with
  | nil => cases h
  | cons p r ih =>
    obtain ⟨k, ys⟩ := p
    simp only [List.map_cons, List.nodup_cons] at hn
    rw [look]
    rcases List.mem_cons.1 h with e | h
    · cases e; rw [if_pos rfl]
    · have : i ∈ r.map (·.1) := List.mem_map.2 ⟨_, h, rfl⟩
      rw [if_neg (fun e => hn.1 (by rw [e]; exact this)), ih hn.2 h]
theorem look_ne {l : List (Nat × List S)} {i : Nat} (h : look l i ≠ []) : ∃ xs, (i, xs) ∈ l ∧ look l i = xs := by
  induction l with
  | nil => exact absurd rfl h
  | cons p r ih =>
    obtain ⟨k, ys⟩ := p
    rw [look] at h ⊢
    by_cases e : k = i
    · subst e
      rw [if_pos rfl] at h ⊢
      exact ⟨ys, List.mem_cons_self, rfl⟩
    · rw [if_neg e] at h ⊢
      obtain ⟨xs, h1, h2⟩ := ih h
      exact ⟨xs, List.mem_cons_of_mem _ h1, h2⟩
theorem look_more (l : List (Nat × List S)) (i j : Nat) (s : S) : look (more l i s) j = if i = j then look l j ++ [s] else look l j := by
  induction l with
  | nil =>
    by_cases e : i = j
    · simp [more, look, e]
    · simp [more, look, e]
  | cons p r ih =>
    obtain ⟨k, xs⟩ := p
    rw [more]
    by_cases e : k = i
    · subst e
      rw [if_pos rfl, look, look]
      by_cases e2 : k = j
      · rw [if_pos e2, if_pos e2, if_pos e2]
      · rw [if_neg e2, if_neg e2, if_neg e2]
    · rw [if_neg e, look, look, ih]
      by_cases e2 : k = j
      · rw [if_pos e2, if_pos e2, if_neg (fun e3 => e (e2.trans e3.symm))]
      · rw [if_neg e2, if_neg e2]
theorem more_keys (l : List (Nat × List S)) (i : Nat) (s : S) : (more l i s).map (·.1) = if i ∈ l.map (·.1) then l.map (·.1) else l.map (·.1) ++ [i] := by
  induction l with
  | nil => simp [more]
  | cons p r ih =>
    obtain ⟨k, xs⟩ := p
    rw [more]
    by_cases e : k = i
    · subst e
      rw [if_pos rfl]
      simp
    · rw [if_neg e]
      simp only [List.map_cons, ih, List.mem_cons]
      by_cases h : i ∈ r.map (·.1)
      · rw [if_pos h, if_pos (.inr h)]
      · rw [if_neg h, if_neg (by rintro (h' | h'); exact e h'.symm; exact h h')]
        simp
theorem more_mem (l : List (Nat × List S)) (i : Nat) (s : S) (p : Nat × List S) (h : p ∈ more l i s) : p ∈ l ∨ (p.1 = i ∧ p.2 ≠ []) := by
  induction l with
  | nil =>
    rw [more] at h
    rw [List.mem_singleton.1 h]
    exact .inr ⟨rfl, by simp⟩
  | cons q r ih =>
    obtain ⟨k, xs⟩ := q
    rw [more] at h
    by_cases e : k = i
    · rw [if_pos e] at h
      rcases List.mem_cons.1 h with h | h
      · rw [h]; exact .inr ⟨e, by simp⟩
      · exact .inl (List.mem_cons_of_mem _ h)
    · rw [if_neg e] at h
      rcases List.mem_cons.1 h with h | h
      · rw [h]; exact .inl List.mem_cons_self
      · rcases ih h with h | h
        · exact .inl (List.mem_cons_of_mem _ h)
        · exact .inr h
theorem more_nodup {l : List (Nat × List S)} (h : (l.map (·.1)).Nodup) (i : Nat) (s : S) : ((more l i s).map (·.1)).Nodup := by
  rw [more_keys]
  split
  · exact h
  · rename_i hn
    exact List.nodup_append.2 ⟨h, by simp, by intro a ha b hb; rw [List.mem_singleton.1 hb]; rintro rfl; exact hn ha⟩

/-- The reference's device. -/
structure E where
  sector : List S
  row : List (Nat × S)
  off : Bool
  left : Int
  count : Int
  wrote : Int
/-- What the row has of a sector. -/
def of (row : List (Nat × S)) (i : Nat) : List S := (row.filter (fun p => p.1 = i)).map (·.2)
theorem of_snoc (row : List (Nat × S)) (i j : Nat) (s : S) : of (row ++ [(i, s)]) j = if i = j then of row j ++ [s] else of row j := by
  unfold of
  rw [List.filter_append]
  by_cases e : i = j
  · simp [e]
  · simp [e]
/-- The two say the same. -/
structure Sim (d : D) (r : E) : Prop where
  ok : d.Ok
  lasts : d.lasts = r.sector
  waits : ∀ i, look d.waits i = of r.row i
  range : ∀ p ∈ r.row, p.1 < r.sector.length
  off : d.off = r.off
  fuse : d.fuse = r.left
  steps : d.steps = r.count
  writes : d.writes = r.wrote
  left0 : 0 ≤ r.left
  dark : r.off = true → r.left = 0

/-! ### the calls -/
def zero128 : S := ⟨(List.replicate 128 (0 : UInt8)).toArray⟩
def D.step (d : D) : D × Bool :=
  if d.off = true then (d, false)
  else if d.fuse = 1 then ({ d with steps := d.steps + 1, off := true, fuse := 0 }, false)
  else ({ d with steps := d.steps + 1, fuse := max 0 (d.fuse - 1) }, true)
def E.step (r : E) : E × Bool :=
  if r.off = true then (r, false)
  else if r.left = 1 then ({ r with count := r.count + 1, off := true, left := 0 }, false)
  else ({ r with count := r.count + 1, left := if 1 < r.left then r.left - 1 else r.left }, true)
def D.write (d : D) (i : Int) (s : S) : D × Int :=
  if i < 0 ∨ (d.lasts.length : Int) ≤ i ∨ s.size ≠ 128 then (d, 1)
  else if d.step.2 = false then (d.step.1, 6)
  else ({ d.step.1 with waits := more d.step.1.waits i.toNat s, writes := d.step.1.writes + 1 }, 0)
def E.write (r : E) (i : Int) (s : S) : E × Int :=
  if i < 0 ∨ (r.sector.length : Int) ≤ i ∨ s.size ≠ 128 then (r, 1)
  else if r.step.2 = false then (r.step.1, 6)
  else ({ r.step.1 with row := r.step.1.row ++ [(i.toNat, s)], wrote := r.step.1.wrote + 1 }, 0)
/-- What lasts, when all that waits is done. -/
def settle (lasts : List S) (waits : List (Nat × List S)) : List S := lasts.mapIdx fun i s => (look waits i).getLast?.getD s
def D.sync (d : D) : D × Int := if d.step.2 = false then (d.step.1, 6) else ({ d.step.1 with lasts := settle d.lasts d.waits, waits := [] }, 0)
def E.sync (r : E) : E × Int := if r.step.2 = false then (r.step.1, 6) else ({ r.step.1 with sector := r.row.foldl (fun l p => l.set p.1 p.2) r.sector, row := [] }, 0)
def D.fused (d : D) (n : Int) : D × Int := if d.off = true then (d, 6) else ({ d with fuse := max 0 n }, 0)
def E.fused (r : E) (n : Int) : E × Int := if r.off = true then (r, 6) else ({ r with left := if n < 1 then 0 else n }, 0)
def D.cut (d : D) : D × Int := if d.off = true then (d, 6) else ({ d with off := true, fuse := 0 }, 0)
def E.cut (r : E) : E × Int := if r.off = true then (r, 6) else ({ r with off := true, left := 0 }, 0)
/-- How many writes of a sector last: by the k-th pick, of m that wait. -/
def pick (picks : List Int) (k m : Nat) : Nat := if picks.length = 0 then 0 else (max 0 (picks.getD (k % picks.length) 0)).toNat % (m + 1)
/-- The sectors from i on, the k-th of those with writes being the next. -/
def start (picks : List Int) (w : Nat → List S) : List S → Nat → Nat → List S
  | [], _, _ => []
  | s :: r, i, k => if w i = [] then s :: start picks w r (i + 1) k
      else (if pick picks k (w i).length = 0 then s else (w i).getD (pick picks k (w i).length - 1) s) :: start picks w r (i + 1) (k + 1)
def D.start (d : D) (picks : List Int) : D × Int := if d.off = false then (d, 10) else ({ d with lasts := Dv.start picks (look d.waits) d.lasts 0 0, waits := [], off := false }, 0)
def E.start (r : E) (picks : List Int) : E × Int := if r.off = false then (r, 10) else ({ r with sector := Dv.start picks (of r.row) r.sector 0 0, row := [], off := false }, 0)
def D.read (d : D) (i : Int) : S × Int :=
  if i < 0 ∨ (d.lasts.length : Int) ≤ i then (ByteArray.empty, 1) else if d.off = true then (ByteArray.empty, 6) else ((look d.waits i.toNat).getLast?.getD (d.lasts.getD i.toNat ByteArray.empty), 0)
def E.read (r : E) (i : Int) : S × Int :=
  if i < 0 ∨ (r.sector.length : Int) ≤ i then (ByteArray.empty, 1) else if r.off = true then (ByteArray.empty, 6) else ((of r.row i.toNat).getLast?.getD (r.sector.getD i.toNat ByteArray.empty), 0)
def D.wait (d : D) (i : Int) : Int := if i < 0 ∨ (d.lasts.length : Int) ≤ i then 0 else ((look d.waits i.toNat).length : Int)
def E.wait (r : E) (i : Int) : Int := if i < 0 then 0 else ((of r.row i.toNat).length : Int)
def D.last (d : D) (i : Int) : S := if i < 0 ∨ (d.lasts.length : Int) ≤ i then ByteArray.empty else d.lasts.getD i.toNat ByteArray.empty

/-! ### they agree -/
theorem sim_step {d : D} {r : E} (h : Sim d r) : Sim d.step.1 r.step.1 ∧ d.step.2 = r.step.2 ∧ d.step.1.waits = d.waits ∧ d.step.1.lasts = d.lasts ∧ r.step.1.row = r.row ∧ r.step.1.sector = r.sector := by
  obtain ⟨ho, hl, hw, hr, hf, hu, hs, hwr, h0, hd⟩ := h
  unfold D.step E.step
  by_cases o : r.off = true
  · rw [if_pos (hf.trans o), if_pos o]
    exact ⟨⟨ho, hl, hw, hr, hf, hu, hs, hwr, h0, hd⟩, rfl, rfl, rfl, rfl, rfl⟩
  · rw [if_neg (by rw [hf]; exact o), if_neg o]
    by_cases o1 : r.left = 1
    · rw [if_pos (hu.trans o1), if_pos o1]
      exact ⟨⟨⟨ho.1, ho.2⟩, hl, hw, hr, rfl, rfl, by simp [hs], hwr, by simp, fun _ => rfl⟩, rfl, rfl, rfl, rfl, rfl⟩
    · rw [if_neg (by rw [hu]; exact o1), if_neg o1]
      refine ⟨⟨⟨ho.1, ho.2⟩, hl, hw, hr, hf, ?_, by simp [hs], hwr, ?_, fun e => absurd e o⟩, rfl, rfl, rfl, rfl, rfl⟩
      · simp only [hu]; split <;> omega
      · simp only; split <;> omega
theorem sim_write {d : D} {r : E} (h : Sim d r) (i : Int) (s : S) : Sim (d.write i s).1 (r.write i s).1 ∧ (d.write i s).2 = (r.write i s).2 := by
  obtain ⟨hs, he, e1, e2, e3, e4⟩ := sim_step h
  unfold D.write E.write
  rw [h.lasts]
  by_cases c : i < 0 ∨ (r.sector.length : Int) ≤ i ∨ s.size ≠ 128
  · rw [if_pos c, if_pos c]; exact ⟨h, rfl⟩
  rw [if_neg c, if_neg c, he]
  by_cases c2 : r.step.2 = false
  · rw [if_pos c2, if_pos c2]; exact ⟨hs, rfl⟩
  rw [if_neg c2, if_neg c2]
  have hi : i.toNat < r.sector.length := by omega
  obtain ⟨ho, hl, hw, hr, hf, hu, hst, hwr, h0, hd⟩ := hs
  refine ⟨⟨⟨more_nodup ho.1 _ _, fun p hp => ?_⟩, hl, fun j => ?_, fun p hp => ?_, hf, hu, hst, by simp [hwr], h0, hd⟩, rfl⟩
  · rcases more_mem _ _ _ p hp with hp | ⟨h1, h2⟩
    · exact ho.2 p hp
    · exact ⟨by rw [h1, hl, e4]; exact hi, h2⟩
  · simp only [look_more, of_snoc, hw]
  · rcases List.mem_append.1 hp with hp | hp
    · exact hr p hp
    · rw [List.mem_singleton.1 hp]; rw [e4]; exact hi
theorem last_cons (x : S) (xs : List S) (d : S) : (x :: xs).getLast?.getD d = xs.getLast?.getD x := by
  cases xs with
  | nil => rfl
  | cons y ys => rw [List.getLast?_cons_cons]; rw [List.getLast?_eq_some_getLast (by simp)]; rfl
theorem fold_set : ∀ (row : List (Nat × S)) (l : List S) (i : Nat), (row.foldl (fun l p => l.set p.1 p.2) l)[i]? = (l[i]?).map (fun s => (of row i).getLast?.getD s)
  | [], l, i => by simp [of]
  | p :: r, l, i => by
    rw [List.foldl_cons, fold_set r, List.getElem?_set]
    unfold of
    by_cases e : p.1 = i
    · rw [if_pos e]
      by_cases hl : p.1 < l.length
      · rw [if_pos hl]
        have h2 : i < l.length := by omega
        rw [List.getElem?_eq_getElem h2]
        simp only [List.filter_cons, e, decide_true, if_true, List.map_cons, Option.map_some, last_cons]
      · rw [if_neg hl, List.getElem?_eq_none (by omega)]; rfl
    · rw [if_neg e]
      simp only [List.filter_cons, e, decide_false, Bool.false_eq_true, if_false]
theorem fold_len (row : List (Nat × S)) : ∀ (l : List S), (row.foldl (fun l p => l.set p.1 p.2) l).length = l.length := by
  induction row with
  | nil => intro l; rfl
  | cons p r ih => intro l; rw [List.foldl_cons, ih, List.length_set]
theorem sim_sync {d : D} {r : E} (h : Sim d r) : Sim d.sync.1 r.sync.1 ∧ d.sync.2 = r.sync.2 := by
  obtain ⟨hs, he, e1, e2, e3, e4⟩ := sim_step h
  unfold D.sync E.sync
  rw [he]
  by_cases c : r.step.2 = false
  · rw [if_pos c, if_pos c]; exact ⟨hs, rfl⟩
  rw [if_neg c, if_neg c]
  obtain ⟨ho, hl, hw, hr, hf, hu, hst, hwr, h0, hd⟩ := hs
  refine ⟨⟨⟨by simp, by simp⟩, ?_, fun j => rfl, by simp, hf, hu, hst, hwr, h0, hd⟩, rfl⟩
  apply List.ext_getElem?
  intro i
  simp only [settle, List.getElem?_mapIdx, fold_set, h.lasts, h.waits]
theorem sim_fused {d : D} {r : E} (h : Sim d r) (n : Int) : Sim (d.fused n).1 (r.fused n).1 ∧ (d.fused n).2 = (r.fused n).2 := by
  unfold D.fused E.fused
  by_cases c : r.off = true
  · rw [if_pos (h.off.trans c), if_pos c]; exact ⟨h, rfl⟩
  rw [if_neg (by rw [h.off]; exact c), if_neg c]
  obtain ⟨ho, hl, hw, hr, hf, hu, hst, hwr, h0, hd⟩ := h
  refine ⟨⟨⟨ho.1, ho.2⟩, hl, hw, hr, hf, ?_, hst, hwr, ?_, fun e => absurd e c⟩, rfl⟩
  · simp only; split <;> omega
  · simp only; split <;> omega
theorem sim_cut {d : D} {r : E} (h : Sim d r) : Sim d.cut.1 r.cut.1 ∧ d.cut.2 = r.cut.2 := by
  unfold D.cut E.cut
  rw [h.off]
  by_cases c : r.off = true
  · rw [if_pos c, if_pos c]; exact ⟨h, rfl⟩
  rw [if_neg c, if_neg c]
  obtain ⟨ho, hl, hw, hr, hf, hu, hst, hwr, h0, hd⟩ := h
  exact ⟨⟨⟨ho.1, ho.2⟩, hl, hw, hr, rfl, rfl, hst, hwr, by simp, fun _ => rfl⟩, rfl⟩
theorem start_len (picks : List Int) (w : Nat → List S) : ∀ (l : List S) (i k : Nat), (Dv.start picks w l i k).length = l.length
  | [], _, _ => rfl
  | s :: r, i, k => by
    rw [Dv.start]
    split
    · simp [start_len picks w r]
    · simp [start_len picks w r]
theorem sim_start {d : D} {r : E} (h : Sim d r) (picks : List Int) : Sim (d.start picks).1 (r.start picks).1 ∧ (d.start picks).2 = (r.start picks).2 := by
  unfold D.start E.start
  rw [h.off]
  by_cases c : r.off = false
  · rw [if_pos c, if_pos c]; exact ⟨h, rfl⟩
  rw [if_neg c, if_neg c]
  obtain ⟨ho, hl, hw, hr, hf, hu, hst, hwr, h0, hd⟩ := h
  have e : look d.waits = of r.row := funext hw
  exact ⟨⟨⟨by simp, by simp⟩, by simp only [hl, e], fun j => rfl, by simp, rfl, hu, hst, hwr, h0, fun e => by cases e⟩, rfl⟩
theorem sim_read {d : D} {r : E} (h : Sim d r) (i : Int) : d.read i = r.read i := by
  unfold D.read E.read
  rw [h.lasts, h.off, h.waits]
theorem of_range {r : E} (h : ∀ p ∈ r.row, p.1 < r.sector.length) {i : Nat} (hi : r.sector.length ≤ i) : of r.row i = [] := by
  unfold of
  rw [List.map_eq_nil_iff, List.filter_eq_nil_iff]
  intro p hp
  have := h p hp
  simp only [decide_eq_true_eq]
  omega
theorem sim_wait {d : D} {r : E} (h : Sim d r) (i : Int) : d.wait i = r.wait i := by
  unfold D.wait E.wait
  rw [h.lasts, h.waits]
  by_cases c : i < 0
  · rw [if_pos (.inl c), if_pos c]
  · rw [if_neg c]
    by_cases c2 : (r.sector.length : Int) ≤ i
    · rw [if_pos (.inr c2), of_range h.range (by omega)]; rfl
    · rw [if_neg (by omega)]
theorem sim_last {d : D} {r : E} (h : Sim d r) (i : Nat) (hi : i < r.sector.length) : d.last (i : Int) = r.sector.getD i ByteArray.empty := by
  unfold D.last
  rw [h.lasts, if_neg (by omega)]
  simp
end Go.Proofs.YtjbkkmgkckopdaaDoor.Dv
