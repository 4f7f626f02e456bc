/- The device: Sync. -/
import Derived.Test.YtjbkkmgkckopdaaDoorDevE
namespace Go.Proofs.YtjbkkmgkckopdaaDoor.Dv
open Go.RowKit Go.Proofs.YtjbkkmgkckopdaaDoorW.PrintWords Go.Proofs.YtjbkkmgkckopdaaDoorW.PrintLast Go.Proofs.YtjbkkmgkckopdaaDoorW.PrintMore Go.Proofs.YtjbkkmgkckopdaaDoor.Mem
set_option linter.unusedVariables false
set_option linter.unusedSimpArgs false
theorem map_inj {α : Type} {f : α → Nat} : ∀ {l : List α}, (l.map f).Nodup → ∀ {a b : α}, a ∈ l → b ∈ l → f a = f b → a = b
  | [], _, a, b, ha, _, _ => by cases ha
  | x :: r, h, a, b, ha, hb, e => by
    rw [List.map_cons, List.nodup_cons] at h
    rcases List.mem_cons.1 ha with h1 | h1
    · rcases List.mem_cons.1 hb with h2 | h2
      · rw [h1, h2]
      · exact absurd (show f x ∈ r.map f from List.mem_map.2 ⟨b, h2, by rw [← e, h1]⟩) h.1
    · rcases List.mem_cons.1 hb with h2 | h2
      · exact absurd (show f x ∈ r.map f from List.mem_map.2 ⟨a, h1, by rw [e, h2]⟩) h.1
      · exact map_inj h.2 h1 h2 e
section
variable {w : World} {ok : Nat → Prop} {g : Nat} {d : D} {y : Lay}
theorem DAt.keys (h : DAt w ok g d y) : (y.es.map (·.key)).Nodup := by
  have := h.good.1
  rw [h.waits, List.map_map] at this
  exact this
theorem DAt.inr (h : DAt w ok g d y) (e : DEnt) (he : e ∈ y.es) : e.key < d.lasts.length ∧ e.xs ≠ [] := h.good.2 (e.key, e.xs) (by rw [h.waits]; exact List.mem_map.2 ⟨e, he, rfl⟩)
/-- A sector that lasts is set. -/
theorem DAt.last (h : DAt w ok g d y) (i : Nat) (hi : i < d.lasts.length) (s : S) : DAt (w.setCell ⟨y.L, i, none⟩ (.string s)) ok g { d with lasts := d.lasts.set i s } y := by
  have far : ∀ k, k ≠ y.L → (w.setCell ⟨y.L, i, none⟩ (.string s)).heap[k]? = w.heap[k]? := fun k hk => Below.heap_setCell w ⟨y.L, i, none⟩ _ k hk
  have hgL : g ≠ y.L := by
    rintro e1
    have h1 := h.row
    unfold Strs at h1
    rw [← e1, h.blk] at h1
    injection h1 with h1
    injection h1 with _ h1
    cases h1
  have hML : y.M ≠ y.L := by
    intro e1
    have h1 := h.map
    have h2 := h.row
    unfold IMap at h1
    unfold Strs at h2
    rw [e1, h2] at h1
    cases h1
  exact {
    blk := by rw [List.length_set]; exact (far _ hgL).trans h.blk
    row := h.row.set i hi s
    map := (far _ hML).trans h.map
    rows := fun e he => ⟨(far _ (fun e1 => (List.nodup_cons.1 h.apart).1 (List.mem_map.2 ⟨e, he, e1⟩))).trans (h.rows e he).1, (h.rows e he).2⟩
    waits := h.waits
    apart := h.apart
    borns := h.borns
    old := h.old
    okg := h.okg
    okL := h.okL
    okM := h.okM
    oke := h.oke
    good := ⟨h.good.1, fun p hp => by rw [List.length_set]; exact h.good.2 p hp⟩
    len := by rw [List.length_set]; exact h.len
    few := h.few }
/-- Nothing waits any more. -/
theorem DAt.clear (h : DAt w ok g d y) : DAt ((w.alloc (.map #[] 0)).setCell ⟨g, 1, none⟩ (.map (some w.heap.size))) (fun k => ok k ∨ w.heap.size ≤ k) g { d with waits := [] } ⟨y.L, y.cap, y.rest, w.heap.size, [], 0⟩ := by
  have lg := blk_lt h.blk
  have lL := blk_lt h.row
  have hgL : y.L ≠ g := by
    rintro rfl
    have h1 := h.row
    unfold Strs at h1
    rw [h.blk] at h1
    injection h1 with h1
    injection h1 with _ h1
    cases h1
  have far : ∀ k, k ≠ g → ((w.alloc (.map #[] 0)).setCell ⟨g, 1, none⟩ (.map (some w.heap.size))).heap[k]? = (w.alloc (.map #[] 0)).heap[k]? := fun k hk => Below.heap_setCell _ ⟨g, 1, none⟩ _ k hk
  exact {
    blk := blk_put ((Below.heap_alloc w _ g lg).trans h.blk) 1 _ rfl
    row := (far _ hgL).trans ((Below.heap_alloc w _ _ lL).trans h.row)
    map := (far w.heap.size (by omega)).trans (blk_new _ _)
    rows := by simp
    waits := rfl
    apart := by simp
    borns := by simp
    old := by simp
    okg := .inl h.okg
    okL := .inl h.okL
    okM := .inr (Nat.le_refl _)
    oke := by simp
    good := ⟨by simp, by simp⟩
    len := h.len
    few := by simp }
end
theorem filter_short {α : Type} {p : α → Bool} : ∀ {l : List α} {a : α}, a ∈ l → p a = false → (l.filter p).length < l.length
  | [], _, h, _ => by cases h
  | x :: r, a, h, hp => by
    rcases List.mem_cons.1 h with rfl | h
    · rw [List.filter_cons_of_neg (by simp [hp])]
      exact Nat.lt_succ_of_le (List.length_filter_le _ _)
    · by_cases hx : p x = true
      · rw [List.filter_cons_of_pos hx]
        exact Nat.succ_lt_succ (filter_short h hp)
      · rw [List.filter_cons_of_neg hx]
        exact Nat.lt_succ_of_lt (filter_short h hp)
theorem left_short {es : List Ent} {seen : List Nat} {e : Ent} (h : e ∈ left es seen) : (left es (seen ++ [e.born])).length < (left es seen).length := by
  have h1 : left es (seen ++ [e.born]) = (left es seen).filter (fun x => x.born != e.born) := by
    unfold left
    rw [List.filter_filter]
    congr 1
    funext x
    by_cases h1 : x.born ∈ seen <;> by_cases h2 : x.born = e.born <;> simp [h1, h2]
  rw [h1]
  exact filter_short h (by simp)
/-- What lasts, when the entries with these stamps are done. -/
def Part (d : D) (es : List DEnt) (seen : List Nat) (ls : List S) : Prop :=
  ls.length = d.lasts.length ∧ ∀ i, i < d.lasts.length → ((∀ e ∈ es, e.key = i → e.born ∉ seen) → ls[i]? = d.lasts[i]?) ∧ (∀ e ∈ es, e.key = i → e.born ∈ seen → ls[i]? = e.xs.getLast?)
theorem part_start (d : D) (es : List DEnt) : Part d es [] d.lasts := ⟨rfl, fun i hi => ⟨fun _ => rfl, fun e _ _ h => by cases h⟩⟩
theorem part_step {d : D} {es : List DEnt} {seen : List Nat} {ls : List S} (h : Part d es seen ls) (hk : (es.map (·.key)).Nodup) (hb : (es.map (·.born)).Nodup) {e0 : DEnt} (he : e0 ∈ es) (hi0 : e0.key < d.lasts.length) {s : S} (hs : e0.xs.getLast? = some s) :
    Part d es (seen ++ [e0.born]) (ls.set e0.key s) := by
  obtain ⟨h1, h2⟩ := h
  refine ⟨by rw [List.length_set]; exact h1, fun i hi => ⟨fun hno => ?_, fun e hee hki hbs => ?_⟩⟩
  · have hne : e0.key ≠ i := fun e1 => hno e0 he e1 (by simp)
    rw [List.getElem?_set_ne hne]
    exact (h2 i hi).1 (fun e hee hki hbs => hno e hee hki (List.mem_append_left _ hbs))
  · by_cases hki0 : e0.key = i
    · have : e = e0 := map_inj hk hee he (hki.trans hki0.symm)
      subst this
      rw [hki0, List.getElem?_set_self (by omega), hs]
    · rw [List.getElem?_set_ne hki0]
      rcases List.mem_append.1 hbs with hbs | hbs
      · exact (h2 i hi).2 e hee hki hbs
      · have : e = e0 := map_inj hb hee he (by simpa using hbs)
        subst this
        exact absurd hki hki0
theorem part_end {w : World} {ok : Nat → Prop} {g : Nat} {d : D} {y : Lay} (h : DAt w ok g d y) {seen : List Nat} {ls : List S} (hp : Part d y.es seen ls) (hl : left (y.es.map DEnt.ent) seen = []) : ls = settle d.lasts d.waits := by
  obtain ⟨h1, h2⟩ := hp
  have hall : ∀ e ∈ y.es, e.born ∈ seen := by
    intro e he
    unfold left at hl
    rw [List.filter_eq_nil_iff] at hl
    have := hl e.ent (List.mem_map.2 ⟨e, he, rfl⟩)
    simpa [DEnt.ent] using this
  apply List.ext_getElem?
  intro i
  unfold settle
  rw [List.getElem?_mapIdx]
  by_cases hi : i < d.lasts.length
  · rw [List.getElem?_eq_getElem hi]
    rcases seek_ent i y.es with ⟨j, e, q1, q2, q3, q4⟩ | ⟨q1, q2, q3⟩
    · have he := List.mem_of_getElem? q2
      rw [(h2 i hi).2 e he q3 (hall e he), h.waits, q4]
      have hne := (h.inr e he).2
      rw [List.getLast?_eq_some_getLast hne]
      rfl
    · rw [(h2 i hi).1 (fun e he hk => absurd hk (q2 e he)), h.waits, q3, List.getElem?_eq_getElem hi]
      rfl
  · rw [List.getElem?_eq_none (by omega), List.getElem?_eq_none (by omega)]
    rfl
section
variable {ok : Nat → Prop} {g : Nat} {d : D} {y : Lay}
set_option maxHeartbeats 4000000 in
set_option maxRecDepth 1000000 in
theorem sync_no (w : World) (h : DAt w ok g d y) (hf : 0 ≤ d.fuse) (hf2 : d.fuse ≤ 9223372036854775807) (hs0 : 0 ≤ d.steps) (hs2 : d.steps ≤ 1000000000) (ho : d.step.2 = false) :
    Calls Tryd.prog 31 #[.pointer (some ⟨g, 0, none⟩)] w (Does ok g d.step.1 (.int .i64 6) w) := by
  have HS := Aside0.mk (step_calls w h hf hf2 hs0 hs2)
  rw [ho] at HS
  clear h hf hf2 hs0 hs2 ho
  go_enter Tryd.func31, Tryd.ntmps31
  go_wp2_with fail
  refine HS.out.mono ?_
  rintro e w2 ⟨rfl, hy, ht⟩
  have HY := Aside0.mk hy
  clear hy
  go_wp2_with fail
  go_ret
  exact ⟨rfl, HY.out, ht⟩
set_option maxHeartbeats 4000000 in
set_option maxRecDepth 1000000 in
theorem sync_yes (w : World) (h : DAt w ok g d y) (hf : 0 ≤ d.fuse) (hf2 : d.fuse ≤ 9223372036854775807) (hs0 : 0 ≤ d.steps) (hs2 : d.steps ≤ 1000000000) (ho : d.step.2 = true) :
    Calls Tryd.prog 31 #[.pointer (some ⟨g, 0, none⟩)] w (Does ok g { d.step.1 with lasts := settle d.lasts d.waits, waits := [] } (.int .i64 0) w) := by
  have HS := Aside0.mk (step_calls w h hf hf2 hs0 hs2)
  rw [ho] at HS
  obtain ⟨k1, k2, _⟩ := step_keeps d
  have okg := h.okg
  rw [← k1, ← k2]
  clear h hf hf2 hs0 hs2 ho k1 k2
  generalize d.step.1 = d1 at HS ⊢
  go_enter Tryd.func31, Tryd.ntmps31
  go_wp2_with fail
  refine HS.out.mono ?_
  rintro e w1 ⟨rfl, ⟨y1, hy⟩, ht⟩
  have HT := Aside0.mk ht
  have HY := Aside0.mk hy.narrow
  have z1 := hy.z1
  have hrg := run_range (P := Tryd.prog) hy.map Tryd.underlying64
  clear hy ht HS
  go_wp2_with fail
  have HI := Aside0.mk (show Iter (w1.alloc (.mapIter (some y1.M) y1.clock #[] y1.clock)) w1.heap.size y1.M y1.clock [] from blk_new _ _)
  have HD := Aside0.mk (show DAt (w1.alloc (.mapIter (some y1.M) y1.clock #[] y1.clock)) (fun k => (ok k ∨ w.heap.size ≤ k) ∧ k < w1.heap.size) g { d1 with lasts := d1.lasts } y1 from HY.out.move (fun k hk _ => Below.heap_alloc _ _ _ hk.2) (fun _ h _ => h))
  have HT1 := Aside0.mk (show Turn (fun k => ok k ∨ w.heap.size ≤ k) w1 (w1.alloc (.mapIter (some y1.M) y1.clock #[] y1.clock)) from (Turn.refl _ _).alloc _)
  have HRr := Aside0.mk (Nat.le_refl w1.heap.size)
  go_loopg [3, 4] (y1.es.length) (fun kx v3 v4 wr => ∃ (ls : List S) (seen : List Nat), (left (y1.es.map DEnt.ent) seen).length ≤ kx ∧ Aside0 (DAt wr (fun k => (ok k ∨ w.heap.size ≤ k) ∧ k < w1.heap.size) g { d1 with lasts := ls } y1) ∧ Aside0 (Part d1 y1.es seen ls) ∧ Aside0 (Iter wr w1.heap.size y1.M y1.clock seen) ∧ Aside0 (Turn (fun k => ok k ∨ w.heap.size ≤ k) w1 wr))
  case atStart => exact ⟨d1.lasts, [], by unfold left; exact Nat.le_trans (List.length_filter_le _ _) (by simp), HD, Aside0.mk (part_start _ _), HI, HT1⟩
  case round =>
    clear HD HI HT1
    obtain ⟨ls, seen, hk, HD, HP, HI, HT1⟩ := hrel
    have hold : ∀ e ∈ y1.es.map DEnt.ent, e.born < y1.clock := fun e he => by
      obtain ⟨e', he', rfl⟩ := List.mem_map.1 he
      exact HD.out.old e' he'
    have z0 := HD.out.z0
    have z1 := HD.out.z1
    have f1 := HD.out.fz 1
    have hle : w.heap.size ≤ w1.heap.size := HT.out.size
    have hle1 : w1.heap.size ≤ wr.heap.size := HT1.out.size
    have hlr : w1.heap.size < wr.heap.size := blk_lt HI.out
    by_cases hl : left (y1.es.map DEnt.ent) seen = []
    · have hend := Mem.run_next_end (P := Tryd.prog) HD.out.map HI.out hold hl 0
      have HS := Aside0.mk (part_end HY.out HP.out hl)
      have hmm := @run_makeMap Tryd.prog
      have HC := Aside0.mk HD.out.clear
      have HM := HD.out.move (w' := wr.alloc (.map #[] 0)) (fun k hk _ => Below.heap_alloc _ _ _ (by omega)) (fun _ h _ => h)
      have zm1 := HM.z1
      have fm1 := HM.fz 1
      clear hl hold HM
      go_wp2_with fail
      go_ret
      refine ⟨rfl, ⟨⟨y1.L, y1.cap, y1.rest, wr.heap.size, [], 0⟩, ?_⟩, ?_⟩
      · rw [← HS.out]
        exact HC.out.move (fun _ _ _ => rfl) (fun k hk _ => by rcases hk with ⟨h, _⟩ | h; exact h; exact .inr (by omega))
      · refine HT.out.trans ((HT1.out.alloc _).set (.inl (.inl okg)) _) (fun i hi h => ?_)
        rcases h with h | h
        · exact h
        · omega
    · obtain ⟨e, he, nd, hrun⟩ := Mem.run_next (P := Tryd.prog) HD.out.map HI.out hold hl 0
      have hmem := (List.mem_filter.1 he).1
      obtain ⟨en, hen, rfl⟩ := List.mem_map.1 hmem
      have hshort : (left (y1.es.map DEnt.ent) (seen ++ [en.born])).length < (left (y1.es.map DEnt.ent) seen).length := left_short he
      have HI5 := Aside0.mk (show Iter (Mem.put (wr.drewN nd) w1.heap.size (.mapIter (some y1.M) y1.clock (seen ++ [en.born]).toArray y1.clock)) w1.heap.size y1.M y1.clock (seen ++ [en.born]) from put_heap (w := wr.drewN nd) hlr _)
      have HD5 := Aside0.mk (HD.out.move (w' := Mem.put (wr.drewN nd) w1.heap.size (.mapIter (some y1.M) y1.clock (seen ++ [en.born]).toArray y1.clock)) (fun k hk _ => put_other (wr.drewN nd) _ (by omega)) (fun _ h _ => h))
      have HT5 := Aside0.mk (show Turn (fun k => ok k ∨ w.heap.size ≤ k) w1 (Mem.put (wr.drewN nd) w1.heap.size (.mapIter (some y1.M) y1.clock (seen ++ [en.born]).toArray y1.clock)) from (HT1.out.drewN nd).put (.inr (Nat.le_refl _)) _)
      have hrun' : (Instr.next (.pointer (some ⟨w1.heap.size, 0, none⟩)) false 0).run Tryd.prog wr = .ok (.tuple #[.bool true, .int .i64 (en.key : Int), .slice (some ⟨en.g, 0, none⟩) en.xs.length en.cap]) (Mem.put (wr.drewN nd) w1.heap.size (.mapIter (some y1.M) y1.clock (seen ++ [en.born]).toArray y1.clock)) := hrun
      generalize Mem.put (wr.drewN nd) w1.heap.size (.mapIter (some y1.M) y1.clock (seen ++ [en.born]).toArray y1.clock) = w5 at HI5 HD5 HT5 hrun'
      have hent : (Instr.entry (.pointer (some ⟨w1.heap.size, 0, none⟩))).run Tryd.prog w5 = .ok (.tuple #[.int .i64 (en.key : Int), .slice (some ⟨en.g, 0, none⟩) en.xs.length en.cap]) w5 := Mem.run_entry (P := Tryd.prog) (e := en.ent) HD5.out.map HI5.out hmem (by rw [List.map_map]; exact HD5.out.borns)
      obtain ⟨hkey, hne⟩ := HY.out.inr en hen
      obtain ⟨m, hm⟩ : ∃ m, en.xs.length = m + 1 := ⟨en.xs.length - 1, by have := List.length_pos_iff.2 hne; omega⟩
      have hfew := HY.out.few en hen
      have cl := (HD5.out.rows en hen).1.cell m (by omega)
      have hlast : en.xs.getLast? = some en.xs[m] := by rw [List.getLast?_eq_getElem?, show en.xs.length - 1 = m by omega, List.getElem?_eq_getElem (show m < en.xs.length by omega)]
      have hlen : ls.length = d1.lasts.length := HP.out.1
      have hkl : en.key < ls.length := by omega
      have HP5 := Aside0.mk (part_step HP.out HY.out.keys HY.out.borns hen hkey hlast)
      generalize en.xs[m]'(by omega) = s at cl HP5 hlast
      have ck := HD5.out.row.cell en.key hkl
      generalize ls[en.key] = s0 at ck
      have fk := HD5.out.row.frozen en.key
      have z05 := HD5.out.z0
      have HL5 := Aside0.mk (HD5.out.last en.key hkl s)
      have hL1 := HD5.out.okL.2
      have hokL := HD5.out.okL.1
      clear z0 z1 f1 hl he hmem hrun hold HD HI HP HT1 hlast hne hkey hen
      rw [hm] at hent hrun' hfew
      clear hm
      have b0 : (0 : Int) ≤ (en.key : Int) := by omega
      have b1 : (en.key : Int) < (ls.length : Int) := by omega
      have b3 : (m : Int) + 1 - 1 = (m : Int) := by omega
      have b4 : (m : Int) < (m : Int) + 1 := by omega
      have b5 : (0 : Int) ≤ (m : Int) := by omega
      have w9 : IntKind.i64.wrap (m : Int) = (m : Int) := by rw [IntKind.wrap_i64]; omega
      have hI5 := Aside0.mk (show Iter (w5.setCell ⟨y1.L, en.key, none⟩ (.string s)) w1.heap.size y1.M y1.clock (seen ++ [en.born]) from (Below.heap_setCell w5 ⟨y1.L, en.key, none⟩ _ _ (fun e1 => by have e2 : w1.heap.size = y1.L := e1; omega)).trans HI5.out)
      clear HI5
      go_wp2_with fail
      go_region
      go_wp2_with fail
      go_roundg ((left (y1.es.map DEnt.ent) (seen ++ [en.born])).length)
      case measure => omega
      case rel => exact ⟨_, _, Nat.le_refl _, Aside0.mk (HL5.out.drewN 1), HP5, Aside0.mk hI5.out, Aside0.mk (HT5.out.set (.inl hokL) _).drew⟩
end
end Go.Proofs.YtjbkkmgkckopdaaDoor.Dv
