import Derived.Test.YtjbkkmgkckopdaaSearch
import Derived.BigRegion
import Derived.Shelf.Abstract
namespace Go.Proofs.Ytjbkkmgkckopdaa.Pure
open Go.RowKit Go.Proofs.Ytjbkkmgkckopdaa.PN Go.Proofs.YtjbkkmgkckopdaaW.PrintWords Go.Proofs.YtjbkkmgkckopdaaW.PrintLast
set_option linter.unusedVariables false
set_option linter.unusedSimpArgs false

/-- What Seek keeps in memory: its three parameters and the named result. -/
structure St (w0 w : World) (leaf : Bool) (s key : ByteArray) (g3 g4 g5 g7 : Nat) : Prop where
  b : Below w0.heap.size w0 w
  o3 : w0.heap.size ≤ g3
  o4 : g3 < g4
  o5 : g4 < g5
  o7 : g5 < g7
  h3 : w.heap[g3]? = some (.cells #[.bool leaf] 4 (0, 0))
  h4 : w.heap[g4]? = some (.cells #[.string s] 9 (0, 0))
  h5 : w.heap[g5]? = some (.cells #[.string key] 9 (0, 0))
  h7 : w.heap[g7]? = some (.cells #[.string ⟨#[]⟩, .string ⟨#[]⟩, .int .i64 0, .int .i64 0, .int .i64 0] 35 (0, 0))
theorem St.below {w0 w w' : World} {leaf : Bool} {s key : ByteArray} {g3 g4 g5 g7 : Nat} (h : St w0 w leaf s key g3 g4 g5 g7) (hb : Below w.heap.size w w') : St w0 w' leaf s key g3 g4 g5 g7 :=
  ⟨below_step h.b hb, h.o3, h.o4, h.o5, h.o7, blk_below h.h3 hb, blk_below h.h4 hb, blk_below h.h5 hb, blk_below h.h7 hb⟩
theorem St.c3 {w0 w : World} {leaf : Bool} {s key : ByteArray} {g3 g4 g5 g7 : Nat} (h : St w0 w leaf s key g3 g4 g5 g7) : w.cell? ⟨g3, 0, none⟩ = some (.bool leaf) := (blk_cell h.h3 0).trans rfl
theorem St.c4 {w0 w : World} {leaf : Bool} {s key : ByteArray} {g3 g4 g5 g7 : Nat} (h : St w0 w leaf s key g3 g4 g5 g7) : w.cell? ⟨g4, 0, none⟩ = some (.string s) := (blk_cell h.h4 0).trans rfl
theorem St.c5 {w0 w : World} {leaf : Bool} {s key : ByteArray} {g3 g4 g5 g7 : Nat} (h : St w0 w leaf s key g3 g4 g5 g7) : w.cell? ⟨g5, 0, none⟩ = some (.string key) := (blk_cell h.h5 0).trans rfl
/-- A store into a later block leaves it. -/
theorem heap_set_ne {W : World} {g g' : Nat} {o : Obj} (h : W.heap[g]? = some o) (hne : g ≠ g') (c0 c1 c2 c3 c4 : Value) :
    (((((W.setCell ⟨g', 0, none⟩ c0).setCell ⟨g', 1, none⟩ c1).setCell ⟨g', 2, none⟩ c2).setCell ⟨g', 3, none⟩ c3).setCell ⟨g', 4, none⟩ c4).heap[g]? = some o := by
  rw [Below.heap_setCell _ _ _ g hne, Below.heap_setCell _ _ _ g hne, Below.heap_setCell _ _ _ g hne, Below.heap_setCell _ _ _ g hne, Below.heap_setCell _ _ _ g hne]; exact h
theorem St.put {w0 w : World} {leaf : Bool} {s key : ByteArray} {g3 g4 g5 g7 g : Nat} (h : St w0 w leaf s key g3 g4 g5 g7) (hg : g7 < g) (c0 c1 c2 c3 c4 : Value) :
    St w0 (((((w.setCell ⟨g, 0, none⟩ c0).setCell ⟨g, 1, none⟩ c1).setCell ⟨g, 2, none⟩ c2).setCell ⟨g, 3, none⟩ c3).setCell ⟨g, 4, none⟩ c4) leaf s key g3 g4 g5 g7 := by
  have := h.o3; have := h.o4; have := h.o5; have := h.o7
  exact ⟨put5_below h.b (by omega) _ _ _ _ _, h.o3, h.o4, h.o5, h.o7, heap_set_ne h.h3 (by omega) _ _ _ _ _, heap_set_ne h.h4 (by omega) _ _ _ _ _, heap_set_ne h.h5 (by omega) _ _ _ _ _, heap_set_ne h.h7 (by omega) _ _ _ _ _⟩

theorem keys_lt {leaf : Bool} {l : List S35} (hr : rightB leaf l = true) : ∀ (d i : Nat) (h : i + d + 1 < l.length), key (l[i]'(by omega)) < key (l[i + d + 1]'h)
  | 0, i, h => by
    unfold rightB at hr
    exact ((tb_iff.1 hr).2 (i + 1) (Nat.zero_le _) h).2 (by omega)
  | d + 1, i, h => List.lt_trans (keys_lt hr d i (by omega)) (by
    have hr' := hr
    unfold rightB at hr'
    exact ((tb_iff.1 hr').2 (i + (d + 1) + 1) (Nat.zero_le _) h).2 (by omega))
theorem keys_lt' {leaf : Bool} {l : List S35} (hr : rightB leaf l = true) (i j : Nat) (hij : i < j) (hj : j < l.length) : key (l[i]'(by omega)) < key (l[j]'hj) := by
  obtain ⟨d, rfl⟩ : ∃ d, j = i + d + 1 := ⟨j - i - 1, by omega⟩
  exact keys_lt hr d i hj
/-- Is the key at i not less than the one that is looked for? -/
def notLess (l : List S35) (k : ByteArray) (i : Nat) : Bool := !(Op.bytesLess (l.getD i z35).f0.toList k.toList)
theorem notLess_at (l : List S35) (k : ByteArray) (i : Nat) (h : i < l.length) : notLess l k i = !(Op.bytesLess l[i].f0.toList k.toList) := by
  unfold notLess
  rw [List.getD_eq_getElem?_getD, List.getElem?_eq_getElem h]; rfl
theorem notLess_mono {leaf : Bool} {l : List S35} (hr : rightB leaf l = true) (k : ByteArray) (a b : Nat) (h : a ≤ b) (hb : b < l.length) (ha : notLess l k a = true) : notLess l k b = true := by
  rcases Nat.lt_or_eq_of_le h with hlt | rfl
  · rw [notLess_at _ _ _ (by omega), bless, Bool.not_eq_true', Bool.eq_false_iff, Ne, tb_iff] at ha
    rw [notLess_at _ _ _ (by omega), bless, Bool.not_eq_true', Bool.eq_false_iff, Ne, tb_iff]
    exact fun hh => ha (List.lt_trans (keys_lt' hr a b hlt hb) hh)
  · exact ha
theorem cnt_rt (leaf : Bool) (l : List S35) (hr : rightB leaf l = true) (ht : tot leaf l ≤ 488) : Ev (fun k => node_count.f k (ba (encL leaf l))) (l.length : Int) := by
  have hn := len_of_tot ht
  have hsz : (ba (encL leaf l)).size = tot leaf l := by rw [ba_size, encL_length]
  obtain ⟨n, h1, _, h3⟩ := cnt_ev (ba (encL leaf l)) (by omega)
  have ht0 : takeN (ba (encL leaf l)).data.toList 0 2 = some l.length := by
    rw [ba_data]
    exact take_at' (A := []) (R := offs leaf (2 + 2 * l.length) l ++ cellsL leaf l) (by unfold encL; rw [List.append_assoc]; rfl) rfl (by omega)
  have := cellsL_tot leaf l
  have hle : 2 * l.length + 2 ≤ (ba (encL leaf l)).size := by rw [hsz]; unfold tot; omega
  rw [← h3 _ ht0 hle]
  exact h1

theorem c_pos {l : List S35} (hr : rightB false l = true) (ky : ByteArray) (c : Nat) (h : cut (notLess l ky) l.length c) (hne : ∀ h : c < l.length, l[c].f0.toList ≠ ky.toList) : 0 < c := by
  rcases Nat.eq_zero_or_pos c with rfl | hp
  · exfalso
    have hr' := hr
    unfold rightB at hr'
    rcases (tb_iff.1 hr').1 with h1 | ⟨h0, hz⟩
    · cases h1
    · have e0 : l[0].f0.toList = [] := (empty_iff _).2 hz
      have h2 := h.2.2 0 (Nat.le_refl _) h0
      rw [notLess_at _ _ _ h0, e0] at h2
      have h3 := hne h0
      rw [e0] at h3
      cases hk : ky.toList with
      | nil => rw [hk] at h3; exact h3 rfl
      | cons a b => rw [hk] at h2; simp [Op.bytesLess] at h2
  · exact hp

/-- What Seek answers: the place c of the first cell that is not less, whether it is the key's, the place that is told, its cell. -/
def SeekPost (leaf : Bool) (l : List S35) (ky : ByteArray) (w : World) (e : Ending) (w' : World) : Prop :=
  ∃ (c : Nat) (at_ : Int) (x : S35) (ex : Bool), e = .returned (.tuple #[.int .i64 at_, .agg #[.string x.f0, .string x.f1, .int .i64 x.f2, .int .i64 x.f3, .int .i64 x.f4], .bool ex]) ∧ Below w.heap.size w w' ∧ cut (notLess l ky) l.length c ∧ (ex = true ↔ ∃ h : c < l.length, l[c].f0.toList = ky.toList) ∧ at_ = (if leaf = false ∧ ex = false then (c : Int) - 1 else (c : Int)) ∧ (leaf = false ∧ ex = false → 0 < c) ∧ x = l.getD at_.toNat z35
theorem SeekPost.of {leaf : Bool} {l : List S35} {ky : ByteArray} {w w' : World} {e : Ending} {c : Nat} {at_ : Int} {x : S35} {ex : Bool} (he : e = .returned (.tuple #[.int .i64 at_, .agg #[.string x.f0, .string x.f1, .int .i64 x.f2, .int .i64 x.f3, .int .i64 x.f4], .bool ex])) (hb : Below w.heap.size w w')
    (hcut : cut (notLess l ky) l.length c) (hex : ex = true ↔ ∃ h : c < l.length, l[c].f0.toList = ky.toList) (hat : at_ = (if leaf = false ∧ ex = false then (c : Int) - 1 else (c : Int))) (hpos : leaf = false ∧ ex = false → 0 < c) (hx : x = l.getD at_.toNat z35) : SeekPost leaf l ky w e w' :=
  ⟨c, at_, x, ex, he, hb, hcut, hex, hat, hpos, hx⟩

set_option maxHeartbeats 8000000 in
set_option maxRecDepth 1000000 in
theorem seek_calls (leaf : Bool) (l : List S35) (hr : rightB leaf l = true) (ht : tot leaf l ≤ 488) (ky : ByteArray) (w : World) :
    Calls Try.prog 29 #[.bool leaf, .string (ba (encL leaf l)), .string ky] w (SeekPost leaf l ky w) := by
  have hu35 := Try.underlying35
  have hmf : ∀ (fn : Fn) (fi ca : Array Value) (w : World), (Instr.makeFunc fn fi ca).run Try.prog w = .ok (.func fn fi ca) w := fun _ _ _ _ => rfl
  obtain ⟨kd, hd⟩ := Ev.rounds (decode_rt leaf l hr ht)
  obtain ⟨kc, hc⟩ := Ev.rounds (cnt_rt leaf l hr ht)
  have CL := Aside0.mk (closure_calls leaf l hr ht ky)
  have GT := Aside0.mk (fun i hi => Ev.rounds (get_rt leaf l hr ht i hi))
  have MO := Aside0.mk (notLess_mono hr ky)
  have hnl := len_of_tot ht
  have CP := Aside0.mk (fun c (hl : leaf = false) (hcu : cut (notLess l ky) l.length c) hne => c_pos (by rw [← hl]; exact hr) ky c hcu hne)
  generalize ba (encL leaf l) = s at hd hc CL GT ⊢
  have HD := Aside0.mk hd
  have HC := Aside0.mk hc
  clear hd hc
  go_enter Try.func29, Try.ntmps29
  go_wp2_with (first | ((with_reducible refine gate_dst (N := 3) rfl ?_); refine box_event ?hg (N := 3) ?hd (cs := #[.bool leaf]) (t := 4) ?hr ?_; (case hd => rfl); (case hg => rfl); (case hr => first | (go_simp; done) | (go_simp; rfl)); intro g3 hg3 w1 hx3 hb3; have HG3 := Aside0.mk hg3; clear hg3) | ((with_reducible refine gate_dst (N := 4) rfl ?_); refine box_event ?hg (N := 4) ?hd (cs := #[.string s]) (t := 9) ?hr ?_; (case hd => rfl); (case hg => rfl); (case hr => first | (go_simp; done) | (go_simp; rfl)); intro g4 hg4 w2 hx4 hb4; have HG4 := Aside0.mk hg4; clear hg4) | ((with_reducible refine gate_dst (N := 5) rfl ?_); refine box_event ?hg (N := 5) ?hd (cs := #[.string ky]) (t := 9) ?hr ?_; (case hd => rfl); (case hg => rfl); (case hr => first | (go_simp; done) | (go_simp; rfl)); intro g5 hg5 w3 hx5 hb5; have HG5 := Aside0.mk hg5; clear hg5) | ((with_reducible refine gate_dst (N := 7) rfl ?_); refine box_event ?hg (N := 7) ?hd (cs := #[.string (⟨#[]⟩ : ByteArray), .string (⟨#[]⟩ : ByteArray), .int .i64 0, .int .i64 0, .int .i64 0]) (t := 35) ?hr ?_; (case hd => rfl); (case hg => rfl); (case hr => first | (go_simp; done) | (go_simp; rfl)); intro g7 hg7 w4 hx7 hb7; have hg3 := HG3.out; have hg4 := HG4.out; have hg5 := HG5.out; have l1 := blk_lt hx3; have l2 := blk_lt hx4; have l3 := blk_lt hx5; have l4 := blk_lt hx7; have S0 := Aside0.mk (St.mk (below_step (below_step (below_step (below_step (Below.refl _ _) hb3) hb4) hb5) hb7) (by omega) (by omega) (by omega) (by omega) (blk_below (blk_below (blk_below hx3 hb4) hb5) hb7) (blk_below (blk_below hx4 hb5) hb7) (blk_below hx5 hb7) hx7 : St w w4 leaf s ky g3 g4 g5 g7); clear HG3 HG4 HG5; clear hg3 hg4 hg5 hg7 hx3 hx4 hx5 hx7 hb3 hb4 hb5 hb7 l1 l2 l3 l4; have q3 := S0.out.c3; have q4 := S0.out.c4))

  refine (node_Decode.calls kd leaf s l 0 _ HD.out).mono ?_
  rintro e w5 ⟨v0, rfl, _, hb⟩
  have S1 := Aside0.mk (S0.out.below hb)
  clear S0 q3 q4 hb
  have q4 := S1.out.c4
  go_wp2_with fail
  refine (node_count.calls kc s _ _ HC.out).mono ?_
  rintro e w6 ⟨rfl, hb⟩
  have S2 := Aside0.mk (S1.out.below hb)
  clear S1 q4 hb
  go_wp2_with fail
  refine (search_calls 94 #[.pointer (some ⟨g3, 0, none⟩), .pointer (some ⟨g4, 0, none⟩), .pointer (some ⟨g5, 0, none⟩)] l.length (notLess l ky) w6 (enters_of Try.func94 (by kernel_rfl) rfl) (by omega) (fun w1 hb i hi => by
    have S3 := S2.out.below hb
    rw [notLess_at _ _ _ hi]
    exact CL.out i hi g3 g4 g5 w1 S3.c3 S3.c4 S3.c5) MO.out).mono ?_
  rintro e w7 ⟨c, rfl, hcut, hb⟩
  have S3 := Aside0.mk (S2.out.below hb)
  have hcn := hcut.1
  have HCUT := Aside0.mk hcut
  clear S2 hb hcut
  by_cases hcl : c < l.length
  · obtain ⟨kg, hkg⟩ := GT.out c hcl
    have HG := Aside0.mk hkg
    clear hkg
    have hlt : (c : Int) < (l.length : Int) := by omega
    have hcl' := Aside0.mk hcl
    go_wp2_with (first | ((with_reducible refine gate_dst (N := 13) rfl ?_); refine box_event ?hg (N := 13) ?hd (cs := #[.string (⟨#[]⟩ : ByteArray), .string (⟨#[]⟩ : ByteArray), .int .i64 0, .int .i64 0, .int .i64 0]) (t := 35) ?hr ?_; (case hd => rfl); (case hg => rfl); (case hr => first | (go_simp; done) | (go_simp; rfl)); intro g hg w8 hx hb; have S4 := Aside0.mk (S3.out.below hb); have GN := Aside0.mk (by have := blk_lt S3.out.h7; omega : g7 < g); have BX := Aside0.mk hx; clear hg hx hb S3; have q3 := S4.out.c3; have q4 := S4.out.c4; have q5 := S4.out.c5; have z0 : w8.cell? ⟨g, 0, none⟩ = some (.string (⟨#[]⟩ : ByteArray)) := (blk_cell BX.out 0).trans rfl; have z1 : w8.cell? ⟨g, 1, none⟩ = some (.string (⟨#[]⟩ : ByteArray)) := (blk_cell BX.out 1).trans rfl; have z2 : w8.cell? ⟨g, 2, none⟩ = some (.int .i64 0) := (blk_cell BX.out 2).trans rfl; have z3 : w8.cell? ⟨g, 3, none⟩ = some (.int .i64 0) := (blk_cell BX.out 3).trans rfl; have z4 : w8.cell? ⟨g, 4, none⟩ = some (.int .i64 0) := (blk_cell BX.out 4).trans rfl; have zf0 := blk_frozen BX.out 0; have zf1 := blk_frozen BX.out 1; have zf2 := blk_frozen BX.out 2; have zf3 := blk_frozen BX.out 3; have zf4 := blk_frozen BX.out 4))
    refine (node_get.calls kg leaf s _ _ _ _ _ _ _ _ HG.out).mono ?_
    rintro e w9 ⟨rfl, hb⟩
    have S5 := Aside0.mk (S4.out.below hb)
    have BX5 := Aside0.mk (blk_below BX.out hb)
    clear S4 BX hb q3 q4 q5 z0 z1 z2 z3 z4 zf0 zf1 zf2 zf3 zf4
    have ex0 : l.getD c z35 = l[c] := by rw [List.getD_eq_getElem?_getD, List.getElem?_eq_getElem hcl]; rfl
    have EX0 := Aside0.mk ex0
    clear ex0
    have EC := Aside0.mk (rfl : l[c] = l[c])
    generalize hx : l[c] = x at EC EX0 HG ⊢
    have HX := Aside0.mk hx
    clear hx
    have z0 : w9.cell? ⟨g, 0, none⟩ = some (.string (⟨#[]⟩ : ByteArray)) := (blk_cell BX5.out 0).trans rfl; have z1 : w9.cell? ⟨g, 1, none⟩ = some (.string (⟨#[]⟩ : ByteArray)) := (blk_cell BX5.out 1).trans rfl; have z2 : w9.cell? ⟨g, 2, none⟩ = some (.int .i64 0) := (blk_cell BX5.out 2).trans rfl; have z3 : w9.cell? ⟨g, 3, none⟩ = some (.int .i64 0) := (blk_cell BX5.out 3).trans rfl; have z4 : w9.cell? ⟨g, 4, none⟩ = some (.int .i64 0) := (blk_cell BX5.out 4).trans rfl; have zf0 := blk_frozen BX5.out 0; have zf1 := blk_frozen BX5.out 1; have zf2 := blk_frozen BX5.out 2; have zf3 := blk_frozen BX5.out 3; have zf4 := blk_frozen BX5.out 4
    by_cases heq : x.f0.toList = ky.toList
    · have HE := Aside0.mk heq
      have hbe : (x.f0.toList == ky.toList) = true := beq_iff_eq.mpr HE.out
      clear heq
      cases leaf with
      | true =>
        go_wp2_with (first | ((with_reducible refine gate_store (t := 35) (p := 13) rfl ?_); refine store_event rfl (t := 35) (p := 13) rfl rfl (by go_simp; rfl) ?_; intro w10 hw; have S6 := Aside0.mk (by rw [hw]; exact S5.out.put GN.out _ _ _ _ _ : St w w10 true s ky g3 g4 g5 g7); have BX6 := Aside0.mk (by rw [hw]; exact put5_blk BX5.out _ _ _ _ _ : w10.heap[g]? = some (.cells #[.string x.f0, .string x.f1, .int .i64 x.f2, .int .i64 x.f3, .int .i64 x.f4] 35 (0, 0))); clear hw; clear S5 BX5 z0 z1 z2 z3 z4 zf0 zf1 zf2 zf3 zf4; have q3 := S6.out.c3; have q4 := S6.out.c4; have q5 := S6.out.c5; have y0 : w10.cell? ⟨g, 0, none⟩ = some (.string x.f0) := (blk_cell BX6.out 0).trans rfl; have y1 : w10.cell? ⟨g, 1, none⟩ = some (.string x.f1) := (blk_cell BX6.out 1).trans rfl; have y2 : w10.cell? ⟨g, 2, none⟩ = some (.int .i64 x.f2) := (blk_cell BX6.out 2).trans rfl; have y3 : w10.cell? ⟨g, 3, none⟩ = some (.int .i64 x.f3) := (blk_cell BX6.out 3).trans rfl; have y4 : w10.cell? ⟨g, 4, none⟩ = some (.int .i64 x.f4) := (blk_cell BX6.out 4).trans rfl; have yf0 := blk_frozen BX6.out 0; have yf1 := blk_frozen BX6.out 1; have yf2 := blk_frozen BX6.out 2; have yf3 := blk_frozen BX6.out 3; have yf4 := blk_frozen BX6.out 4; have v0 : w10.cell? ⟨g7, 0, none⟩ = some (.string (⟨#[]⟩ : ByteArray)) := (blk_cell S6.out.h7 0).trans rfl; have v1 : w10.cell? ⟨g7, 1, none⟩ = some (.string (⟨#[]⟩ : ByteArray)) := (blk_cell S6.out.h7 1).trans rfl; have v2 : w10.cell? ⟨g7, 2, none⟩ = some (.int .i64 0) := (blk_cell S6.out.h7 2).trans rfl; have v3 : w10.cell? ⟨g7, 3, none⟩ = some (.int .i64 0) := (blk_cell S6.out.h7 3).trans rfl; have v4 : w10.cell? ⟨g7, 4, none⟩ = some (.int .i64 0) := (blk_cell S6.out.h7 4).trans rfl; have vf0 := blk_frozen S6.out.h7 0; have vf1 := blk_frozen S6.out.h7 1; have vf2 := blk_frozen S6.out.h7 2; have vf3 := blk_frozen S6.out.h7 3; have vf4 := blk_frozen S6.out.h7 4))
        go_region
        go_wp2
        refine bodyPost_ret (results_list (rs := [.tmp 6, .cell 7 35, .tmp 8]) rfl (by simp) (.tmp (.cell g7 35 _ (0, 0) _ rfl (blk_drew (put5_blk S6.out.h7 _ _ _ _ _)) Try.underlying35 rfl (by kernel_rfl) (.tmp .nil)))) rfl ?_
        have e3 := S6.out.o3
        have e4 := S6.out.o4
        have e5 := S6.out.o5
        have e7 := S6.out.o7
        exact SeekPost.of (c := c) (x := x) (ex := true) rfl (below_drew (put5_below S6.out.b (by omega) _ _ _ _ _)) HCUT.out ⟨fun _ => ⟨hcl'.out, by rw [HX.out]; exact HE.out⟩, fun _ => rfl⟩ (by simp) (fun h => by simp at h) (EX0.out.symm)
      | false =>
        go_wp2_with (first | ((with_reducible refine gate_store (t := 35) (p := 13) rfl ?_); refine store_event rfl (t := 35) (p := 13) rfl rfl (by go_simp; rfl) ?_; intro w10 hw; have S6 := Aside0.mk (by rw [hw]; exact S5.out.put GN.out _ _ _ _ _ : St w w10 false s ky g3 g4 g5 g7); have BX6 := Aside0.mk (by rw [hw]; exact put5_blk BX5.out _ _ _ _ _ : w10.heap[g]? = some (.cells #[.string x.f0, .string x.f1, .int .i64 x.f2, .int .i64 x.f3, .int .i64 x.f4] 35 (0, 0))); clear hw; clear S5 BX5 z0 z1 z2 z3 z4 zf0 zf1 zf2 zf3 zf4; have q3 := S6.out.c3; have q4 := S6.out.c4; have q5 := S6.out.c5; have y0 : w10.cell? ⟨g, 0, none⟩ = some (.string x.f0) := (blk_cell BX6.out 0).trans rfl; have y1 : w10.cell? ⟨g, 1, none⟩ = some (.string x.f1) := (blk_cell BX6.out 1).trans rfl; have y2 : w10.cell? ⟨g, 2, none⟩ = some (.int .i64 x.f2) := (blk_cell BX6.out 2).trans rfl; have y3 : w10.cell? ⟨g, 3, none⟩ = some (.int .i64 x.f3) := (blk_cell BX6.out 3).trans rfl; have y4 : w10.cell? ⟨g, 4, none⟩ = some (.int .i64 x.f4) := (blk_cell BX6.out 4).trans rfl; have yf0 := blk_frozen BX6.out 0; have yf1 := blk_frozen BX6.out 1; have yf2 := blk_frozen BX6.out 2; have yf3 := blk_frozen BX6.out 3; have yf4 := blk_frozen BX6.out 4; have v0 : w10.cell? ⟨g7, 0, none⟩ = some (.string (⟨#[]⟩ : ByteArray)) := (blk_cell S6.out.h7 0).trans rfl; have v1 : w10.cell? ⟨g7, 1, none⟩ = some (.string (⟨#[]⟩ : ByteArray)) := (blk_cell S6.out.h7 1).trans rfl; have v2 : w10.cell? ⟨g7, 2, none⟩ = some (.int .i64 0) := (blk_cell S6.out.h7 2).trans rfl; have v3 : w10.cell? ⟨g7, 3, none⟩ = some (.int .i64 0) := (blk_cell S6.out.h7 3).trans rfl; have v4 : w10.cell? ⟨g7, 4, none⟩ = some (.int .i64 0) := (blk_cell S6.out.h7 4).trans rfl; have vf0 := blk_frozen S6.out.h7 0; have vf1 := blk_frozen S6.out.h7 1; have vf2 := blk_frozen S6.out.h7 2; have vf3 := blk_frozen S6.out.h7 3; have vf4 := blk_frozen S6.out.h7 4))
        go_region
        go_wp2
        refine bodyPost_ret (results_list (rs := [.tmp 6, .cell 7 35, .tmp 8]) rfl (by simp) (.tmp (.cell g7 35 _ (0, 0) _ rfl (blk_drew (put5_blk S6.out.h7 _ _ _ _ _)) Try.underlying35 rfl (by kernel_rfl) (.tmp .nil)))) rfl ?_
        have e3 := S6.out.o3
        have e4 := S6.out.o4
        have e5 := S6.out.o5
        have e7 := S6.out.o7
        exact SeekPost.of (c := c) (x := x) (ex := true) rfl (below_drew (put5_below S6.out.b (by omega) _ _ _ _ _)) HCUT.out ⟨fun _ => ⟨hcl'.out, by rw [HX.out]; exact HE.out⟩, fun _ => rfl⟩ (by simp) (fun h => by simp at h) (EX0.out.symm)
    · have HE := Aside0.mk heq
      have hbe : (x.f0.toList == ky.toList) = false := beq_eq_false_iff_ne.mpr HE.out
      clear heq
      cases leaf with
      | true =>
        go_wp2_with (first | ((with_reducible refine gate_store (t := 35) (p := 13) rfl ?_); refine store_event rfl (t := 35) (p := 13) rfl rfl (by go_simp; rfl) ?_; intro w10 hw; have S6 := Aside0.mk (by rw [hw]; exact S5.out.put GN.out _ _ _ _ _ : St w w10 true s ky g3 g4 g5 g7); have BX6 := Aside0.mk (by rw [hw]; exact put5_blk BX5.out _ _ _ _ _ : w10.heap[g]? = some (.cells #[.string x.f0, .string x.f1, .int .i64 x.f2, .int .i64 x.f3, .int .i64 x.f4] 35 (0, 0))); clear hw; clear S5 BX5 z0 z1 z2 z3 z4 zf0 zf1 zf2 zf3 zf4; have q3 := S6.out.c3; have q4 := S6.out.c4; have q5 := S6.out.c5; have y0 : w10.cell? ⟨g, 0, none⟩ = some (.string x.f0) := (blk_cell BX6.out 0).trans rfl; have y1 : w10.cell? ⟨g, 1, none⟩ = some (.string x.f1) := (blk_cell BX6.out 1).trans rfl; have y2 : w10.cell? ⟨g, 2, none⟩ = some (.int .i64 x.f2) := (blk_cell BX6.out 2).trans rfl; have y3 : w10.cell? ⟨g, 3, none⟩ = some (.int .i64 x.f3) := (blk_cell BX6.out 3).trans rfl; have y4 : w10.cell? ⟨g, 4, none⟩ = some (.int .i64 x.f4) := (blk_cell BX6.out 4).trans rfl; have yf0 := blk_frozen BX6.out 0; have yf1 := blk_frozen BX6.out 1; have yf2 := blk_frozen BX6.out 2; have yf3 := blk_frozen BX6.out 3; have yf4 := blk_frozen BX6.out 4; have v0 : w10.cell? ⟨g7, 0, none⟩ = some (.string (⟨#[]⟩ : ByteArray)) := (blk_cell S6.out.h7 0).trans rfl; have v1 : w10.cell? ⟨g7, 1, none⟩ = some (.string (⟨#[]⟩ : ByteArray)) := (blk_cell S6.out.h7 1).trans rfl; have v2 : w10.cell? ⟨g7, 2, none⟩ = some (.int .i64 0) := (blk_cell S6.out.h7 2).trans rfl; have v3 : w10.cell? ⟨g7, 3, none⟩ = some (.int .i64 0) := (blk_cell S6.out.h7 3).trans rfl; have v4 : w10.cell? ⟨g7, 4, none⟩ = some (.int .i64 0) := (blk_cell S6.out.h7 4).trans rfl; have vf0 := blk_frozen S6.out.h7 0; have vf1 := blk_frozen S6.out.h7 1; have vf2 := blk_frozen S6.out.h7 2; have vf3 := blk_frozen S6.out.h7 3; have vf4 := blk_frozen S6.out.h7 4))
        go_region
        go_wp2
        refine bodyPost_ret (results_list (rs := [.tmp 6, .cell 7 35, .tmp 8]) rfl (by simp) (.tmp (.cell g7 35 _ (0, 0) _ rfl (blk_drew (put5_blk S6.out.h7 _ _ _ _ _)) Try.underlying35 rfl (by kernel_rfl) (.tmp .nil)))) rfl ?_
        have e3 := S6.out.o3
        have e4 := S6.out.o4
        have e5 := S6.out.o5
        have e7 := S6.out.o7
        exact SeekPost.of (c := c) (x := x) (ex := false) rfl (below_drew (put5_below S6.out.b (by omega) _ _ _ _ _)) HCUT.out ⟨fun h => (by cases h), fun h => absurd (by obtain ⟨h1, h2⟩ := h; rw [HX.out] at h2; exact h2) HE.out⟩ (by simp) (fun h => by simp at h) (EX0.out.symm)
      | false =>
        have hp : 0 < c := CP.out c rfl HCUT.out (fun h e => HE.out (by rw [← HX.out]; exact e))
        obtain ⟨kh, hkh⟩ := GT.out (c - 1) (by omega)
        have ei : ((c - 1 : Nat) : Int) = (c : Int) - 1 := by omega
        rw [ei] at hkh
        have HH := Aside0.mk hkh
        clear hkh ei
        have hc0 : (0 : Int) < (c : Int) := by omega
        have ex1 : l.getD ((c : Int) - 1).toNat z35 = l[c - 1] := by rw [show ((c : Int) - 1).toNat = c - 1 by omega, List.getD_eq_getElem?_getD, List.getElem?_eq_getElem (by omega)]; rfl
        have EX1 := Aside0.mk ex1
        clear ex1
        generalize l[c - 1] = x2 at EX1 HH
        go_wp2_with (first | ((with_reducible refine gate_store (t := 35) (p := 13) rfl ?_); refine store_event rfl (t := 35) (p := 13) rfl rfl (by go_simp; rfl) ?_; intro w10 hw; have S6 := Aside0.mk (by rw [hw]; exact S5.out.put GN.out _ _ _ _ _ : St w w10 false s ky g3 g4 g5 g7); have BX6 := Aside0.mk (by rw [hw]; exact put5_blk BX5.out _ _ _ _ _ : w10.heap[g]? = some (.cells #[.string x.f0, .string x.f1, .int .i64 x.f2, .int .i64 x.f3, .int .i64 x.f4] 35 (0, 0))); clear hw; clear S5 BX5 z0 z1 z2 z3 z4 zf0 zf1 zf2 zf3 zf4; have q3 := S6.out.c3; have q4 := S6.out.c4; have q5 := S6.out.c5; have y0 : w10.cell? ⟨g, 0, none⟩ = some (.string x.f0) := (blk_cell BX6.out 0).trans rfl; have y1 : w10.cell? ⟨g, 1, none⟩ = some (.string x.f1) := (blk_cell BX6.out 1).trans rfl; have y2 : w10.cell? ⟨g, 2, none⟩ = some (.int .i64 x.f2) := (blk_cell BX6.out 2).trans rfl; have y3 : w10.cell? ⟨g, 3, none⟩ = some (.int .i64 x.f3) := (blk_cell BX6.out 3).trans rfl; have y4 : w10.cell? ⟨g, 4, none⟩ = some (.int .i64 x.f4) := (blk_cell BX6.out 4).trans rfl; have yf0 := blk_frozen BX6.out 0; have yf1 := blk_frozen BX6.out 1; have yf2 := blk_frozen BX6.out 2; have yf3 := blk_frozen BX6.out 3; have yf4 := blk_frozen BX6.out 4))
        refine (node_get.calls kh _ s _ _ _ _ _ _ _ _ HH.out).mono ?_
        rintro e w11 ⟨rfl, hb⟩
        have S7 := Aside0.mk (S6.out.below hb)
        have BX7 := Aside0.mk (blk_below BX6.out hb)
        clear S6 BX6 hb q3 q4 q5 y0 y1 y2 y3 y4 yf0 yf1 yf2 yf3 yf4
        have z0 : w11.cell? ⟨g, 0, none⟩ = some (.string x.f0) := (blk_cell BX7.out 0).trans rfl; have z1 : w11.cell? ⟨g, 1, none⟩ = some (.string x.f1) := (blk_cell BX7.out 1).trans rfl; have z2 : w11.cell? ⟨g, 2, none⟩ = some (.int .i64 x.f2) := (blk_cell BX7.out 2).trans rfl; have z3 : w11.cell? ⟨g, 3, none⟩ = some (.int .i64 x.f3) := (blk_cell BX7.out 3).trans rfl; have z4 : w11.cell? ⟨g, 4, none⟩ = some (.int .i64 x.f4) := (blk_cell BX7.out 4).trans rfl; have zf0 := blk_frozen BX7.out 0; have zf1 := blk_frozen BX7.out 1; have zf2 := blk_frozen BX7.out 2; have zf3 := blk_frozen BX7.out 3; have zf4 := blk_frozen BX7.out 4
        go_wp2_with (first | ((with_reducible refine gate_store (t := 35) (p := 13) rfl ?_); refine store_event rfl (t := 35) (p := 13) rfl rfl (by go_simp; rfl) ?_; intro w12 hw; have S8 := Aside0.mk (by rw [hw]; exact S7.out.put GN.out _ _ _ _ _ : St w w12 false s ky g3 g4 g5 g7); have BX8 := Aside0.mk (by rw [hw]; exact put5_blk BX7.out _ _ _ _ _ : w12.heap[g]? = some (.cells #[.string x2.f0, .string x2.f1, .int .i64 x2.f2, .int .i64 x2.f3, .int .i64 x2.f4] 35 (0, 0))); clear hw; clear S7 BX7 z0 z1 z2 z3 z4 zf0 zf1 zf2 zf3 zf4; have q3 := S8.out.c3; have q4 := S8.out.c4; have q5 := S8.out.c5; have y0 : w12.cell? ⟨g, 0, none⟩ = some (.string x2.f0) := (blk_cell BX8.out 0).trans rfl; have y1 : w12.cell? ⟨g, 1, none⟩ = some (.string x2.f1) := (blk_cell BX8.out 1).trans rfl; have y2 : w12.cell? ⟨g, 2, none⟩ = some (.int .i64 x2.f2) := (blk_cell BX8.out 2).trans rfl; have y3 : w12.cell? ⟨g, 3, none⟩ = some (.int .i64 x2.f3) := (blk_cell BX8.out 3).trans rfl; have y4 : w12.cell? ⟨g, 4, none⟩ = some (.int .i64 x2.f4) := (blk_cell BX8.out 4).trans rfl; have yf0 := blk_frozen BX8.out 0; have yf1 := blk_frozen BX8.out 1; have yf2 := blk_frozen BX8.out 2; have yf3 := blk_frozen BX8.out 3; have yf4 := blk_frozen BX8.out 4; have v0 : w12.cell? ⟨g7, 0, none⟩ = some (.string (⟨#[]⟩ : ByteArray)) := (blk_cell S8.out.h7 0).trans rfl; have v1 : w12.cell? ⟨g7, 1, none⟩ = some (.string (⟨#[]⟩ : ByteArray)) := (blk_cell S8.out.h7 1).trans rfl; have v2 : w12.cell? ⟨g7, 2, none⟩ = some (.int .i64 0) := (blk_cell S8.out.h7 2).trans rfl; have v3 : w12.cell? ⟨g7, 3, none⟩ = some (.int .i64 0) := (blk_cell S8.out.h7 3).trans rfl; have v4 : w12.cell? ⟨g7, 4, none⟩ = some (.int .i64 0) := (blk_cell S8.out.h7 4).trans rfl; have vf0 := blk_frozen S8.out.h7 0; have vf1 := blk_frozen S8.out.h7 1; have vf2 := blk_frozen S8.out.h7 2; have vf3 := blk_frozen S8.out.h7 3; have vf4 := blk_frozen S8.out.h7 4))
        go_region
        go_wp2
        refine bodyPost_ret (results_list (rs := [.tmp 6, .cell 7 35, .tmp 8]) rfl (by simp) (.tmp (.cell g7 35 _ (0, 0) _ rfl (blk_drew (put5_blk S8.out.h7 _ _ _ _ _)) Try.underlying35 rfl (by kernel_rfl) (.tmp .nil)))) rfl ?_
        have e3 := S8.out.o3
        have e4 := S8.out.o4
        have e5 := S8.out.o5
        have e7 := S8.out.o7
        exact SeekPost.of (c := c) (x := x2) (ex := false) rfl (below_drew (put5_below S8.out.b (by omega) _ _ _ _ _)) HCUT.out ⟨fun h => (by cases h), fun h => absurd (by obtain ⟨h1, h2⟩ := h; rw [HX.out] at h2; exact h2) HE.out⟩ (by simp) (fun _ => hp) (EX1.out.symm)
  · have hlt : ¬ (c : Int) < (l.length : Int) := by omega
    have HNE := Aside0.mk hcl
    cases leaf with
    | true =>
      go_wp2_with (first | ((with_reducible refine gate_dst (N := 13) rfl ?_); refine box_event ?hg (N := 13) ?hd (cs := #[.string (⟨#[]⟩ : ByteArray), .string (⟨#[]⟩ : ByteArray), .int .i64 0, .int .i64 0, .int .i64 0]) (t := 35) ?hr ?_; (case hd => rfl); (case hg => rfl); (case hr => first | (go_simp; done) | (go_simp; rfl)); intro g hg w8 hx hb; have S4 := Aside0.mk (S3.out.below hb); have GN := Aside0.mk (by have := blk_lt S3.out.h7; omega : g7 < g); have BX := Aside0.mk hx; clear hg hx hb S3; have q3 := S4.out.c3; have q4 := S4.out.c4; have q5 := S4.out.c5; have z0 : w8.cell? ⟨g, 0, none⟩ = some (.string (⟨#[]⟩ : ByteArray)) := (blk_cell BX.out 0).trans rfl; have z1 : w8.cell? ⟨g, 1, none⟩ = some (.string (⟨#[]⟩ : ByteArray)) := (blk_cell BX.out 1).trans rfl; have z2 : w8.cell? ⟨g, 2, none⟩ = some (.int .i64 0) := (blk_cell BX.out 2).trans rfl; have z3 : w8.cell? ⟨g, 3, none⟩ = some (.int .i64 0) := (blk_cell BX.out 3).trans rfl; have z4 : w8.cell? ⟨g, 4, none⟩ = some (.int .i64 0) := (blk_cell BX.out 4).trans rfl; have zf0 := blk_frozen BX.out 0; have zf1 := blk_frozen BX.out 1; have zf2 := blk_frozen BX.out 2; have zf3 := blk_frozen BX.out 3; have zf4 := blk_frozen BX.out 4; have v0 : w8.cell? ⟨g7, 0, none⟩ = some (.string (⟨#[]⟩ : ByteArray)) := (blk_cell S4.out.h7 0).trans rfl; have v1 : w8.cell? ⟨g7, 1, none⟩ = some (.string (⟨#[]⟩ : ByteArray)) := (blk_cell S4.out.h7 1).trans rfl; have v2 : w8.cell? ⟨g7, 2, none⟩ = some (.int .i64 0) := (blk_cell S4.out.h7 2).trans rfl; have v3 : w8.cell? ⟨g7, 3, none⟩ = some (.int .i64 0) := (blk_cell S4.out.h7 3).trans rfl; have v4 : w8.cell? ⟨g7, 4, none⟩ = some (.int .i64 0) := (blk_cell S4.out.h7 4).trans rfl; have vf0 := blk_frozen S4.out.h7 0; have vf1 := blk_frozen S4.out.h7 1; have vf2 := blk_frozen S4.out.h7 2; have vf3 := blk_frozen S4.out.h7 3; have vf4 := blk_frozen S4.out.h7 4))
      go_region
      go_wp2
      refine bodyPost_ret (results_list (rs := [.tmp 6, .cell 7 35, .tmp 8]) rfl (by simp) (.tmp (.cell g7 35 _ (0, 0) _ rfl (blk_drew (put5_blk S4.out.h7 _ _ _ _ _)) Try.underlying35 rfl (by kernel_rfl) (.tmp .nil)))) rfl ?_
      have e3 := S4.out.o3
      have e4 := S4.out.o4
      have e5 := S4.out.o5
      have e7 := S4.out.o7
      exact SeekPost.of (c := c) (x := z35) (ex := false) rfl (below_drew (put5_below S4.out.b (by omega) _ _ _ _ _)) HCUT.out ⟨fun h => (by cases h), fun h => absurd (by obtain ⟨h1, h2⟩ := h; exact h1) HNE.out⟩ (by simp) (fun h => by simp at h) (by rw [show ((c : Int)).toNat = c by omega, List.getD_eq_getElem?_getD, List.getElem?_eq_none (by omega)]; rfl)
    | false =>
      have hp : 0 < c := CP.out c rfl HCUT.out (fun h e => HNE.out h)
      obtain ⟨kh, hkh⟩ := GT.out (c - 1) (by omega)
      have ei : ((c - 1 : Nat) : Int) = (c : Int) - 1 := by omega
      rw [ei] at hkh
      have HH := Aside0.mk hkh
      clear hkh ei
      have hc0 : (0 : Int) < (c : Int) := by omega
      have ex1 : l.getD ((c : Int) - 1).toNat z35 = l[c - 1] := by rw [show ((c : Int) - 1).toNat = c - 1 by omega, List.getD_eq_getElem?_getD, List.getElem?_eq_getElem (by omega)]; rfl
      have EX1 := Aside0.mk ex1
      clear ex1
      generalize l[c - 1] = x2 at EX1 HH
      go_wp2_with (first | ((with_reducible refine gate_dst (N := 13) rfl ?_); refine box_event ?hg (N := 13) ?hd (cs := #[.string (⟨#[]⟩ : ByteArray), .string (⟨#[]⟩ : ByteArray), .int .i64 0, .int .i64 0, .int .i64 0]) (t := 35) ?hr ?_; (case hd => rfl); (case hg => rfl); (case hr => first | (go_simp; done) | (go_simp; rfl)); intro g hg w8 hx hb; have S4 := Aside0.mk (S3.out.below hb); have GN := Aside0.mk (by have := blk_lt S3.out.h7; omega : g7 < g); have BX := Aside0.mk hx; clear hg hx hb S3; have q3 := S4.out.c3; have q4 := S4.out.c4; have q5 := S4.out.c5; have z0 : w8.cell? ⟨g, 0, none⟩ = some (.string (⟨#[]⟩ : ByteArray)) := (blk_cell BX.out 0).trans rfl; have z1 : w8.cell? ⟨g, 1, none⟩ = some (.string (⟨#[]⟩ : ByteArray)) := (blk_cell BX.out 1).trans rfl; have z2 : w8.cell? ⟨g, 2, none⟩ = some (.int .i64 0) := (blk_cell BX.out 2).trans rfl; have z3 : w8.cell? ⟨g, 3, none⟩ = some (.int .i64 0) := (blk_cell BX.out 3).trans rfl; have z4 : w8.cell? ⟨g, 4, none⟩ = some (.int .i64 0) := (blk_cell BX.out 4).trans rfl; have zf0 := blk_frozen BX.out 0; have zf1 := blk_frozen BX.out 1; have zf2 := blk_frozen BX.out 2; have zf3 := blk_frozen BX.out 3; have zf4 := blk_frozen BX.out 4))
      refine (node_get.calls kh _ s _ _ _ _ _ _ _ _ HH.out).mono ?_
      rintro e w11 ⟨rfl, hb⟩
      have S7 := Aside0.mk (S4.out.below hb)
      have BX7 := Aside0.mk (blk_below BX.out hb)
      clear S4 BX hb q3 q4 q5 z0 z1 z2 z3 z4 zf0 zf1 zf2 zf3 zf4
      have z0 : w11.cell? ⟨g, 0, none⟩ = some (.string (⟨#[]⟩ : ByteArray)) := (blk_cell BX7.out 0).trans rfl; have z1 : w11.cell? ⟨g, 1, none⟩ = some (.string (⟨#[]⟩ : ByteArray)) := (blk_cell BX7.out 1).trans rfl; have z2 : w11.cell? ⟨g, 2, none⟩ = some (.int .i64 0) := (blk_cell BX7.out 2).trans rfl; have z3 : w11.cell? ⟨g, 3, none⟩ = some (.int .i64 0) := (blk_cell BX7.out 3).trans rfl; have z4 : w11.cell? ⟨g, 4, none⟩ = some (.int .i64 0) := (blk_cell BX7.out 4).trans rfl; have zf0 := blk_frozen BX7.out 0; have zf1 := blk_frozen BX7.out 1; have zf2 := blk_frozen BX7.out 2; have zf3 := blk_frozen BX7.out 3; have zf4 := blk_frozen BX7.out 4
      go_wp2_with (first | ((with_reducible refine gate_store (t := 35) (p := 13) rfl ?_); refine store_event rfl (t := 35) (p := 13) rfl rfl (by go_simp; rfl) ?_; intro w12 hw; have S8 := Aside0.mk (by rw [hw]; exact S7.out.put GN.out _ _ _ _ _ : St w w12 false s ky g3 g4 g5 g7); have BX8 := Aside0.mk (by rw [hw]; exact put5_blk BX7.out _ _ _ _ _ : w12.heap[g]? = some (.cells #[.string x2.f0, .string x2.f1, .int .i64 x2.f2, .int .i64 x2.f3, .int .i64 x2.f4] 35 (0, 0))); clear hw; clear S7 BX7 z0 z1 z2 z3 z4 zf0 zf1 zf2 zf3 zf4; have q3 := S8.out.c3; have q4 := S8.out.c4; have q5 := S8.out.c5; have y0 : w12.cell? ⟨g, 0, none⟩ = some (.string x2.f0) := (blk_cell BX8.out 0).trans rfl; have y1 : w12.cell? ⟨g, 1, none⟩ = some (.string x2.f1) := (blk_cell BX8.out 1).trans rfl; have y2 : w12.cell? ⟨g, 2, none⟩ = some (.int .i64 x2.f2) := (blk_cell BX8.out 2).trans rfl; have y3 : w12.cell? ⟨g, 3, none⟩ = some (.int .i64 x2.f3) := (blk_cell BX8.out 3).trans rfl; have y4 : w12.cell? ⟨g, 4, none⟩ = some (.int .i64 x2.f4) := (blk_cell BX8.out 4).trans rfl; have yf0 := blk_frozen BX8.out 0; have yf1 := blk_frozen BX8.out 1; have yf2 := blk_frozen BX8.out 2; have yf3 := blk_frozen BX8.out 3; have yf4 := blk_frozen BX8.out 4; have v0 : w12.cell? ⟨g7, 0, none⟩ = some (.string (⟨#[]⟩ : ByteArray)) := (blk_cell S8.out.h7 0).trans rfl; have v1 : w12.cell? ⟨g7, 1, none⟩ = some (.string (⟨#[]⟩ : ByteArray)) := (blk_cell S8.out.h7 1).trans rfl; have v2 : w12.cell? ⟨g7, 2, none⟩ = some (.int .i64 0) := (blk_cell S8.out.h7 2).trans rfl; have v3 : w12.cell? ⟨g7, 3, none⟩ = some (.int .i64 0) := (blk_cell S8.out.h7 3).trans rfl; have v4 : w12.cell? ⟨g7, 4, none⟩ = some (.int .i64 0) := (blk_cell S8.out.h7 4).trans rfl; have vf0 := blk_frozen S8.out.h7 0; have vf1 := blk_frozen S8.out.h7 1; have vf2 := blk_frozen S8.out.h7 2; have vf3 := blk_frozen S8.out.h7 3; have vf4 := blk_frozen S8.out.h7 4))
      go_region
      go_wp2
      refine bodyPost_ret (results_list (rs := [.tmp 6, .cell 7 35, .tmp 8]) rfl (by simp) (.tmp (.cell g7 35 _ (0, 0) _ rfl (blk_drew (put5_blk S8.out.h7 _ _ _ _ _)) Try.underlying35 rfl (by kernel_rfl) (.tmp .nil)))) rfl ?_
      have e3 := S8.out.o3
      have e4 := S8.out.o4
      have e5 := S8.out.o5
      have e7 := S8.out.o7
      exact SeekPost.of (c := c) (x := x2) (ex := false) rfl (below_drew (put5_below S8.out.b (by omega) _ _ _ _ _)) HCUT.out ⟨fun h => (by cases h), fun h => absurd (by obtain ⟨h1, h2⟩ := h; exact h1) HNE.out⟩ (by simp) (fun _ => hp) (EX1.out.symm)
end Go.Proofs.Ytjbkkmgkckopdaa.Pure
