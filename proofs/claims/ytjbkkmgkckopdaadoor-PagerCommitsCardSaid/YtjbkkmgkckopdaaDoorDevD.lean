/- The device: one more write waits, in memory. -/
import Derived.Test.YtjbkkmgkckopdaaDoorDevC
namespace Go.Proofs.YtjbkkmgkckopdaaDoor.Dv
open Go.RowKit Go.Proofs.YtjbkkmgkckopdaaDoorW.PrintWords Go.Proofs.YtjbkkmgkckopdaaDoorW.PrintLast Go.Proofs.YtjbkkmgkckopdaaDoorW.PrintMore Go.Proofs.YtjbkkmgkckopdaaDoor.Mem
set_option linter.unusedVariables false
set_option linter.unusedSimpArgs false
theorem own_strs {w : World} {v : Value} {n : Nat} {ys : List S} (h : w.ownsRow 0 9 1 v n (pw_strs ys)) (h0 : 0 < n) : ∃ g cap rest, v = .slice (some ⟨g, 0, none⟩) n cap ∧ Strs w g ys rest ∧ ys.length + rest.length = cap ∧ cap ≤ maxLen := by
  obtain ⟨hl, h⟩ := h
  rcases h with ⟨_, h1⟩ | ⟨g, cap, cur, rfl, _, hg, hnc, hm, hs, ht⟩
  · omega
  · have hly : ys.length = n := by simpa [pw_strs] using hl
    refine ⟨g, cap, cur.toList.drop n, rfl, ?_, ?_, hm⟩
    · unfold Strs
      rw [hg]
      congr 2
      rw [← ht, Nat.mul_one, List.take_append_drop]
    · have h5 : cur.toList.length = cap := by simpa using hs
      rw [List.length_drop, h5]; omega
theorem strs_own {w : World} {g cap : Nat} {xs : List S} {rest : List Value} (h : Strs w g xs rest) (hc : xs.length + rest.length = cap) (hm : cap ≤ maxLen) : w.ownsRow 0 9 1 (.slice (some ⟨g, 0, none⟩) xs.length cap) xs.length (pw_strs xs) := by
  refine ⟨by simp [pw_strs], .inr ⟨g, cap, _, rfl, Nat.zero_le _, h, by omega, hm, ?_, ?_⟩⟩
  · simp [pw_strs]; omega
  · simp [pw_strs]
theorem nodup_set {l : List Nat} (h : l.Nodup) (i a : Nat) (ha : a ∉ l) : (l.set i a).Nodup := by
  induction l generalizing i with
  | nil => simp
  | cons x r ih =>
    simp only [List.nodup_cons, List.mem_cons, not_or] at h ha
    cases i with
    | zero => exact List.nodup_cons.2 ⟨ha.2, h.2⟩
    | succ i =>
      rw [List.set_cons_succ]
      refine List.nodup_cons.2 ⟨fun hm => ?_, ih h.2 i ha.2⟩
      rcases List.mem_or_eq_of_mem_set hm with hm | hm
      · exact h.1 hm
      · exact ha.1 hm.symm
theorem nodup_inj {l : List Nat} (h : l.Nodup) {i j : Nat} (hi : i < l.length) (hj : j < l.length) (e : l[i] = l[j]) : i = j := by
  rcases Nat.lt_trichotomy i j with h1 | h1 | h1
  · exact absurd e (List.pairwise_iff_getElem.1 h i j hi hj h1)
  · exact h1
  · exact absurd e.symm (List.pairwise_iff_getElem.1 h j i hj hi h1)
theorem upd_more (n : Nat) (s : S) : ∀ (es : List DEnt) (i : Nat) (e0 e1 : DEnt) (u : Value), seek (es.map DEnt.ent) (n : Int) = some (i, u) → es[i]? = some e0 → e1.key = n → e1.xs = e0.xs ++ [s] → e1.born = e0.born →
    upd (es.map DEnt.ent) (n : Int) e1.ent.val = (es.set i e1).map DEnt.ent ∧ more (es.map (fun e => (e.key, e.xs))) n s = (es.set i e1).map (fun e => (e.key, e.xs))
  | [], i, e0, e1, u, h, _, _, _, _ => by cases h
  | e :: r, i, e0, e1, u, h, h1, h2, h3, h4 => by
    rw [List.map_cons, seek] at h
    by_cases hk : e.key = n
    · rw [if_pos (show (DEnt.ent e).key = (n : Int) by simp [DEnt.ent, hk])] at h
      injection h with h
      injection h with hi _
      subst hi
      obtain rfl : e = e0 := by simpa using h1
      refine ⟨?_, ?_⟩
      · rw [List.map_cons, upd, if_pos (show (DEnt.ent e).key = (n : Int) by simp [DEnt.ent, hk])]
        simp [DEnt.ent, hk, h2, h4]
      · rw [List.map_cons, more, if_pos hk]
        simp [hk, h2, h3]
    · have hk' : ¬ (DEnt.ent e).key = (n : Int) := by simp [DEnt.ent]; omega
      rw [if_neg hk'] at h
      cases hs : seek (r.map DEnt.ent) (n : Int) with
      | none => rw [hs] at h; cases h
      | some p =>
        rw [hs] at h
        injection h with h
        injection h with hi _
        subst hi
        obtain ⟨h5, h6⟩ := upd_more n s r p.1 e0 e1 p.2 hs (by simpa using h1) h2 h3 h4
        refine ⟨?_, ?_⟩
        · rw [List.map_cons, upd, if_neg hk', h5, List.set_cons_succ, List.map_cons]
        · rw [List.map_cons, more, if_neg hk, h6, List.set_cons_succ, List.map_cons]
theorem more_new (n : Nat) (s : S) : ∀ es : List DEnt, (∀ e ∈ es, e.key ≠ n) → more (es.map (fun e => (e.key, e.xs))) n s = es.map (fun e => (e.key, e.xs)) ++ [(n, [s])]
  | [], _ => rfl
  | e :: r, h => by
    rw [List.map_cons, more, if_neg (h e List.mem_cons_self), more_new n s r (fun e' he' => h e' (List.mem_cons_of_mem _ he')), List.cons_append]
theorem more_ok {d : D} (h : d.Ok) (n : Nat) (hn : n < d.lasts.length) (s : S) : ({ d with waits := more d.waits n s } : D).Ok :=
  ⟨more_nodup h.1 n s, fun p hp => by
    rcases more_mem d.waits n s p hp with hp | ⟨h1, h2⟩
    · exact h.2 p hp
    · exact ⟨by rw [h1]; exact hn, h2⟩⟩
/-- What is found at a sector. -/
def found (y : Lay) (n : Nat) : Value := match seek (y.es.map DEnt.ent) (n : Int) with | some p => p.2 | none => .slice none 0 0
/-- The map's block behind the store. -/
def after (y : Lay) (n : Nat) (v : Value) : Obj := .map (ents (Mem.stored (y.es.map DEnt.ent) y.clock (n : Int) v).1) (Mem.stored (y.es.map DEnt.ent) y.clock (n : Int) v).2
section
variable {w w2 : World} {ok : Nat → Prop} {g : Nat} {d : D} {y : Lay}
theorem DAt.found_own (h : DAt w ok g d y) (n : Nat) : w.ownsRow 0 9 1 (found y n) (look d.waits n).length (pw_strs (look d.waits n)) ∧ (∀ k, (found y n).ownBlock = some k → ok k ∧ k < w.heap.size ∧ k ≠ g ∧ k ≠ y.L ∧ k ≠ y.M) := by
  unfold found
  rcases seek_ent n y.es with ⟨i, e, h1, h2, h3, h4⟩ | ⟨h1, h2, h3⟩
  · rw [h1, h.waits, h4]
    have he := List.mem_of_getElem? h2
    obtain ⟨r1, r2, r3⟩ := h.rows e he
    refine ⟨strs_own r1 r2 r3, fun k hk => ?_⟩
    have hk' : e.g = k := by simpa [Value.ownBlock] using hk
    subst hk'
    refine ⟨h.oke e he, blk_lt r1, ?_, ?_, ?_⟩
    · rintro rfl
      unfold Strs at r1
      rw [h.blk] at r1
      injection r1 with r1
      injection r1 with _ r1
      cases r1
    · intro e1
      have := h.apart
      rw [List.nodup_cons] at this
      exact this.1 (by rw [← e1]; exact List.mem_map.2 ⟨e, he, rfl⟩)
    · intro e1
      have := h.map
      unfold IMap at this
      unfold Strs at r1
      rw [← e1, r1] at this
      cases this
  · rw [h1, h.waits, h3]
    exact ⟨own_nil _ _ _ _, fun k hk => by simp [Value.ownBlock] at hk⟩
theorem DAt.more (h : DAt w ok g d y) (n : Nat) (hn : n < d.lasts.length) (s : S) (v1 : Value) (hown : w2.ownsRow 0 9 1 v1 ((look d.waits n).length + 1) (pw_strs (look d.waits n ++ [s])))
    (hg : w.grownBy w2 (found y n).ownBlock) (hat : v1.ownBlock = (found y n).ownBlock ∨ ∃ b, v1.ownBlock = some b ∧ w.heap.size ≤ b) (hfew : (look d.waits n).length < 1000000) :
    (∃ y', DAt (Mem.put w2 y.M (after y n v1)) (fun k => ok k ∨ w.heap.size ≤ k) g { d with waits := Dv.more d.waits n s } y') ∧ Turn ok w (Mem.put w2 y.M (after y n v1)) := by
  obtain ⟨_, hblk⟩ := h.found_own n
  obtain ⟨g', cap', rest', hv1, hS, hc, hm⟩ := own_strs hown (by omega)
  have hlt : ∀ {k : Nat} {o : Obj}, w.heap[k]? = some o → k < w.heap.size := fun h => blk_lt h
  have keep : ∀ k, k < w.heap.size → some k ≠ (found y n).ownBlock → k ≠ y.M → (Mem.put w2 y.M (after y n v1)).heap[k]? = w.heap[k]? := fun k h1 h2 h3 => (put_other w2 _ h3).trans (hg.block k h1 h2)
  have hMlt : y.M < w2.heap.size := Nat.lt_of_lt_of_le (hlt h.map) hg.size
  have hgM : y.M ≠ g := by
    rintro rfl
    have h1 := h.map
    unfold IMap at h1
    rw [h.blk] at h1
    cases h1
  have hLM : y.L ≠ y.M := by
    intro e1
    have h1 := h.map
    have h2 := h.row
    unfold IMap at h1
    unfold Strs at h2
    rw [← e1, h2] at h1
    cases h1
  have hg'M : g' ≠ y.M := by
    rcases hat with e1 | ⟨b, e1, e2⟩
    · rw [hv1] at e1
      exact (hblk g' e1.symm).2.2.2.2
    · rw [hv1] at e1
      have : g' = b := by simpa [Value.ownBlock] using e1
      have := hlt h.map
      omega
  have hg'ok : ok g' ∨ w.heap.size ≤ g' := by
    rcases hat with e1 | ⟨b, e1, e2⟩
    · rw [hv1] at e1
      exact .inl (hblk g' e1.symm).1
    · rw [hv1] at e1
      have : g' = b := by simpa [Value.ownBlock] using e1
      exact .inr (by omega)
  have hg'L : g' ≠ y.L := by
    rcases hat with e1 | ⟨b, e1, e2⟩
    · rw [hv1] at e1
      exact (hblk g' e1.symm).2.2.2.1
    · rw [hv1] at e1
      have : g' = b := by simpa [Value.ownBlock] using e1
      have := hlt h.row
      omega
  have hS' : Strs (Mem.put w2 y.M (after y n v1)) g' (look d.waits n ++ [s]) rest' := (put_other w2 _ hg'M).trans hS
  have turn : Turn ok w (Mem.put w2 y.M (after y n v1)) := (Turn.of_grown hg (fun k hk => .inl (hblk k hk).1)).put (.inl h.okM) _
  refine ⟨?_, turn⟩
  have base : ∀ es' clock', (after y n v1) = .map (ents (es'.map DEnt.ent)) clock' → (∀ e ∈ es', (e.g = g' ∧ e.xs = look d.waits n ++ [s] ∧ e.rest = rest' ∧ e.cap = cap') ∨ (e ∈ y.es ∧ some e.g ≠ (found y n).ownBlock)) →
      Dv.more d.waits n s = es'.map (fun e => (e.key, e.xs)) → (y.L :: es'.map (·.g)).Nodup → (es'.map (·.born)).Nodup → (∀ e ∈ es', e.born < clock') →
      DAt (Mem.put w2 y.M (after y n v1)) (fun k => ok k ∨ w.heap.size ≤ k) g { d with waits := Dv.more d.waits n s } ⟨y.L, y.cap, y.rest, y.M, es', clock'⟩ := by
    intro es' clock' q1 q2 q3 q4 q5 q6
    exact {
      blk := (keep g (hlt h.blk) (fun e => (hblk g e.symm).2.2.1 rfl) hgM.symm).trans h.blk
      row := (keep y.L (hlt h.row) (fun e => (hblk y.L e.symm).2.2.2.1 rfl) hLM).trans h.row
      map := by show (Mem.put w2 y.M (after y n v1)).heap[y.M]? = _; rw [put_heap hMlt, q1]
      rows := fun e he => by
        rcases q2 e he with ⟨e1, e2, e3, e4⟩ | ⟨e1, e2⟩
        · rw [e1, e2, e3, e4]; exact ⟨hS', hc, hm⟩
        · obtain ⟨r1, r2, r3⟩ := h.rows e e1
          refine ⟨(keep e.g (hlt r1) e2 ?_).trans r1, r2, r3⟩
          intro e3
          have := h.map
          unfold IMap at this
          unfold Strs at r1
          rw [← e3, r1] at this
          cases this
      waits := q3
      apart := q4
      borns := q5
      old := q6
      okg := .inl h.okg
      okL := .inl h.okL
      okM := .inl h.okM
      oke := fun e he => by
        rcases q2 e he with ⟨e1, _⟩ | ⟨e1, _⟩
        · rw [e1]; exact hg'ok
        · exact .inl (h.oke e e1)
      good := more_ok h.good n hn s
      len := h.len
      few := fun e he => by
        rcases q2 e he with ⟨_, e2, _⟩ | ⟨e1, _⟩
        · rw [e2, List.length_append]; simp; omega
        · exact h.few e e1 }
  rcases seek_ent n y.es with ⟨i, e0, h1, h2, h3, h4⟩ | ⟨h1, h2, h3⟩
  · have hf : found y n = .slice (some ⟨e0.g, 0, none⟩) e0.xs.length e0.cap := by unfold found; rw [h1]
    have hw : look d.waits n = e0.xs := by rw [h.waits, h4]
    have hlen : (look d.waits n).length + 1 = (e0.xs ++ [s]).length := by rw [hw]; simp
    obtain ⟨u1, u2⟩ := upd_more n s y.es i e0 ⟨n, e0.xs ++ [s], g', cap', rest', e0.born⟩ _ h1 h2 rfl rfl rfl
    have hi : i < y.es.length := (List.getElem?_eq_some_iff.1 h2).1
    refine ⟨_, base (y.es.set i ⟨n, e0.xs ++ [s], g', cap', rest', e0.born⟩) y.clock ?_ ?_ ?_ ?_ ?_ ?_⟩
    · unfold after Mem.stored
      rw [h1]
      simp only
      rw [← u1, hv1, hlen]
      rfl
    · intro e he
      obtain ⟨j, hj, hej⟩ := List.getElem_of_mem he
      rw [List.getElem_set] at hej
      by_cases hij : i = j
      · rw [if_pos hij] at hej
        subst hej
        exact .inl ⟨rfl, by rw [hw], rfl, rfl⟩
      · rw [if_neg hij] at hej
        have hj' : j < y.es.length := by simpa using hj
        refine .inr ⟨by rw [← hej]; exact List.getElem_mem hj', ?_⟩
        rw [hf]
        simp only [Value.ownBlock, ne_eq, Option.some.injEq]
        intro eg
        have hnd := (List.nodup_cons.1 h.apart).2
        have e5 : (y.es.map (·.g))[i]'(by simpa using hi) = (y.es.map (·.g))[j]'(by simpa using hj') := by
          have : y.es[i] = e0 := (List.getElem?_eq_some_iff.1 h2).2
          simp only [List.getElem_map, this, hej, eg]
        exact hij (nodup_inj hnd _ _ e5)
    · rw [h.waits]; exact u2
    · rw [List.map_set]
      have hnd := h.apart
      rcases hat with e1 | ⟨b, e1, e2⟩
      · rw [hv1, hf] at e1
        have : g' = e0.g := by simpa [Value.ownBlock] using e1
        have e6 : (y.es.map (·.g)).set i g' = y.es.map (·.g) := by
          have h7 : (y.es.map (·.g))[i]? = some g' := by rw [List.getElem?_map, h2, this]; rfl
          obtain ⟨h8, h9⟩ := List.getElem?_eq_some_iff.1 h7
          rw [← h9, List.set_getElem_self]
        rw [e6]
        exact hnd
      · rw [hv1] at e1
        have hb : g' = b := by simpa [Value.ownBlock] using e1
        have hfr : g' ∉ y.es.map (·.g) := by
          intro hm2
          obtain ⟨e, he, hge⟩ := List.mem_map.1 hm2
          have := hlt (h.rows e he).1
          omega
        rw [List.nodup_cons] at hnd ⊢
        refine ⟨fun hm2 => ?_, nodup_set hnd.2 i g' hfr⟩
        rcases List.mem_or_eq_of_mem_set hm2 with hm2 | hm2
        · exact hnd.1 hm2
        · exact hg'L hm2.symm
    · rw [List.map_set]
      have h7 : (y.es.map (·.born))[i]? = some e0.born := by rw [List.getElem?_map, h2]; rfl
      obtain ⟨h8, h9⟩ := List.getElem?_eq_some_iff.1 h7
      have e6 : (y.es.map (·.born)).set i e0.born = y.es.map (·.born) := by rw [← h9, List.set_getElem_self]
      rw [e6]
      exact h.borns
    · intro e he
      rcases List.mem_or_eq_of_mem_set he with he | he
      · exact h.old e he
      · rw [he]; exact h.old e0 (List.mem_of_getElem? h2)
  · have hf : found y n = .slice none 0 0 := by unfold found; rw [h1]
    have hw : look d.waits n = [] := by rw [h.waits, h3]
    have hfresh : w.heap.size ≤ g' := by
      rcases hat with e1 | ⟨b, e1, e2⟩
      · rw [hv1, hf] at e1
        simp [Value.ownBlock] at e1
      · rw [hv1] at e1
        have : g' = b := by simpa [Value.ownBlock] using e1
        omega
    have hfr : g' ∉ y.es.map (·.g) := by
      intro hm2
      obtain ⟨e, he, hge⟩ := List.mem_map.1 hm2
      have := hlt (h.rows e he).1
      omega
    refine ⟨_, base (y.es ++ [⟨n, [s], g', cap', rest', y.clock⟩]) (y.clock + 1) ?_ ?_ ?_ ?_ ?_ ?_⟩
    · unfold after Mem.stored
      rw [h1]
      simp only
      rw [List.map_append, hv1, hw]
      rfl
    · intro e he
      rcases List.mem_append.1 he with he | he
      · exact .inr ⟨he, by rw [hf]; simp [Value.ownBlock]⟩
      · rw [List.mem_singleton.1 he]
        exact .inl ⟨rfl, by rw [hw]; rfl, rfl, rfl⟩
    · rw [h.waits, more_new n s y.es h2, List.map_append]; rfl
    · have hnd := h.apart
      rw [List.map_append, ← List.cons_append]
      refine List.nodup_append.2 ⟨hnd, by simp, ?_⟩
      intro a ha b hb
      have hb' : b = g' := by simpa using hb
      subst hb'
      rintro rfl
      rcases List.mem_cons.1 ha with ha | ha
      · exact hg'L ha
      · exact hfr ha
    · rw [List.map_append]
      refine List.nodup_append.2 ⟨h.borns, by simp, ?_⟩
      intro a ha b hb
      obtain ⟨e, he, rfl⟩ := List.mem_map.1 ha
      have hb' : b = y.clock := by simpa using hb
      have := h.old e he
      omega
    · intro e he
      rcases List.mem_append.1 he with he | he
      · have := h.old e he; omega
      · rw [List.mem_singleton.1 he]; show y.clock < y.clock + 1; omega
end
end Go.Proofs.YtjbkkmgkckopdaaDoor.Dv
