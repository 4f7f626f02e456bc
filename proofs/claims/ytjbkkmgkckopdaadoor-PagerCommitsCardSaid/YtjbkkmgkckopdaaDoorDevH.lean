/- The sorted keys of a map: the shelf's contracts laid at this dump. -/
import Derived.Shelf.Sort.Plain
import Derived.Shelf.Slices.In.SortNone
import Derived.Shelf.SlIterI.Nil
import Derived.Test.YtjbkkmgkckopdaaDoorDevG
namespace Go.Proofs.YtjbkkmgkckopdaaDoor.It
open Go.RowKit Go.Shelf Go.Sort Go.Maps Go.Proofs.YtjbkkmgkckopdaaDoor.Mem
set_option linter.unusedVariables false
set_option linter.unusedSimpArgs false
def lays189_ren : Go.Shelf.Ren := ⟨fun | 189 => 51 | 125 => 64 | 257 => 63 | 128 => 76 | 129 => 77 | 294 => 67 | 295 => 68 | 296 => 69 | 297 => 70 | 298 => 71 | 299 => 72 | 216 => 73 | 300 => 74 | 301 => 75 | 328 => 79 | 329 => 80 | 330 => 81 | 331 => 82 | 332 => 83 | 215 => 84 | 343 => 86 | n => n, fun | 28 => 43 | 3 => 3 | 46 => 89 | 0 => 0 | 51 => 97 | 53 => 105 | 4 => 4 | 183 => 123 | 182 => 122 | 131 => 127 | 5 => 5 | 9 => 9 | 218 => 131 | 222 => 135 | 228 => 138 | 229 => 139 | n => n, fun | n => n⟩
theorem lays189 : Go.Proofs.Lays.n189 Tryd.prog lays189_ren := {
  mixed := by kernel_rfl
  f125 := Tryd.func64.trans (congrArg some (by kernel_rfl))
  f128 := Tryd.func76.trans (congrArg some (by kernel_rfl))
  f129 := Tryd.func77.trans (congrArg some (by kernel_rfl))
  f189 := Tryd.func51.trans (congrArg some (by kernel_rfl))
  f215 := Tryd.func84.trans (congrArg some (by kernel_rfl))
  f216 := Tryd.func73.trans (congrArg some (by kernel_rfl))
  f257 := Tryd.func63.trans (congrArg some (by kernel_rfl))
  f294 := Tryd.func67.trans (congrArg some (by kernel_rfl))
  f295 := Tryd.func68.trans (congrArg some (by kernel_rfl))
  f296 := Tryd.func69.trans (congrArg some (by kernel_rfl))
  f297 := Tryd.func70.trans (congrArg some (by kernel_rfl))
  f298 := Tryd.func71.trans (congrArg some (by kernel_rfl))
  f299 := Tryd.func72.trans (congrArg some (by kernel_rfl))
  f300 := Tryd.func74.trans (congrArg some (by kernel_rfl))
  f301 := Tryd.func75.trans (congrArg some (by kernel_rfl))
  f328 := Tryd.func79.trans (congrArg some (by kernel_rfl))
  f329 := Tryd.func80.trans (congrArg some (by kernel_rfl))
  f330 := Tryd.func81.trans (congrArg some (by kernel_rfl))
  f331 := Tryd.func82.trans (congrArg some (by kernel_rfl))
  f332 := Tryd.func83.trans (congrArg some (by kernel_rfl))
  f343 := Tryd.func86.trans (congrArg some (by kernel_rfl))
  t0 := Tryd.underlying0
  a0 := Tryd.isAgg0
  z0 := Tryd.sizeOf0
  v0 := Tryd.zeroValue0
  t3 := Tryd.underlying3
  a3 := Tryd.isAgg3
  z3 := Tryd.sizeOf3
  v3 := Tryd.zeroValue3
  t4 := Tryd.underlying4
  a4 := Tryd.isAgg4
  z4 := Tryd.sizeOf4
  v4 := Tryd.zeroValue4
  t5 := Tryd.underlying5
  a5 := Tryd.isAgg5
  z5 := Tryd.sizeOf5
  v5 := Tryd.zeroValue5
  t9 := Tryd.underlying9
  a9 := Tryd.isAgg9
  z9 := Tryd.sizeOf9
  v9 := Tryd.zeroValue9
  t28 := Tryd.underlying43
  a28 := Tryd.isAgg43
  z28 := Tryd.sizeOf43
  v28 := Tryd.zeroValue43
  t46 := Tryd.underlying89
  a46 := Tryd.isAgg89
  z46 := Tryd.sizeOf89
  v46 := Tryd.zeroValue89
  t51 := Tryd.underlying97
  a51 := Tryd.isAgg97
  z51 := Tryd.sizeOf97
  v51 := Tryd.zeroValue97
  t53 := Tryd.underlying105
  a53 := Tryd.isAgg105
  z53 := Tryd.sizeOf105
  v53 := Tryd.zeroValue105
  t131 := Tryd.underlying127
  a131 := Tryd.isAgg127
  z131 := Tryd.sizeOf127
  v131 := Tryd.zeroValue127
  t182 := Tryd.underlying122
  a182 := Tryd.isAgg122
  z182 := Tryd.sizeOf122
  v182 := Tryd.zeroValue122
  t183 := Tryd.underlying123
  a183 := Tryd.isAgg123
  z183 := Tryd.sizeOf123
  v183 := Tryd.zeroValue123
  t218 := Tryd.underlying131
  a218 := Tryd.isAgg131
  z218 := Tryd.sizeOf131
  v218 := Tryd.zeroValue131
  t222 := Tryd.underlying135
  a222 := Tryd.isAgg135
  z222 := Tryd.sizeOf135
  v222 := Tryd.zeroValue135
  t228 := Tryd.underlying138
  a228 := Tryd.isAgg138
  z228 := Tryd.sizeOf138
  v228 := Tryd.zeroValue138
  t229 := Tryd.underlying139
  a229 := Tryd.isAgg139
  z229 := Tryd.sizeOf139
  v229 := Tryd.zeroValue139 }
open Go.Sort Go.RowKit in
theorem slices_Sort_int (blk off cap : Nat) (zs : List Int) (w : World) (hH : Holds (Value.int .i64) w blk off zs.toArray) (hblk : blk < w.heap.size) (hsz : zs.length < 4611686018427387904) :
    Calls Tryd.prog 51 #[.slice (some ⟨blk, off, none⟩) zs.length cap] w fun e w' =>
      e = .returned (.tuple #[]) ∧ ∃ n os, w' = grow (putRow (Value.int .i64) (Sort.ahead w n) blk off (zs.mergeSort fun x y => decide (x ≤ y)).toArray) os := Any.slices_Sort_int lays189 blk off cap zs w hH hblk hsz
open Go.RowKit Go.Sort in
/-- .. and plain. (LAID: no walk: one application.) -/
theorem slices_Sort_int_none (p : Option Addr) (cap : Nat) (w : World) :
    Calls Tryd.prog 51 #[.slice p 0 cap] w fun e w' => e = .returned (.tuple #[]) ∧ w' = w := Any.slices_Sort_int_none lays189 p cap w
def keysD_ren : Go.Shelf.Ren := ⟨fun | 7 => 40 | 10 => 52 | n => n, fun | 23 => 64 | 26 => 3 | 3 => 62 | 28 => 87 | 0 => 0 | 27 => 86 | 33 => 74 | 4 => 4 | n => n, fun | n => n⟩
theorem keysD : Go.Proofs.SlLaysZI.n7 Tryd.prog keysD_ren := {
  mixed := by kernel_rfl
  f7 := ⟨Tryd.f40.name, by decide, Tryd.func40.trans (congrArg some (by kernel_rfl))⟩
  f10 := ⟨Tryd.f52.name, by decide, Tryd.func52.trans (congrArg some (by kernel_rfl))⟩
  t0 := Tryd.underlying0
  a0 := Tryd.isAgg0
  z0 := Tryd.sizeOf0
  v0 := Tryd.zeroValue0
  t4 := Tryd.underlying4
  a4 := Tryd.isAgg4
  z4 := Tryd.sizeOf4
  v4 := Tryd.zeroValue4
  t23 := Tryd.underlying64
  a23 := Tryd.isAgg64
  z23 := Tryd.sizeOf64
  v23 := Tryd.zeroValue64
  t26 := Tryd.underlying3
  a26 := Tryd.isAgg3
  z26 := Tryd.sizeOf3
  v26 := Tryd.zeroValue3
  t27 := Tryd.underlying86
  a27 := Tryd.isAgg86
  z27 := Tryd.sizeOf86
  v27 := Tryd.zeroValue86
  t28 := Tryd.underlying87
  a28 := Tryd.isAgg87
  z28 := Tryd.sizeOf87
  v28 := Tryd.zeroValue87
  t33 := Tryd.underlying74
  a33 := Tryd.isAgg74
  z33 := Tryd.sizeOf74
  v33 := Tryd.zeroValue74 }
def sortedD_ren : Go.Shelf.Ren := ⟨fun | 6 => 39 | 8 => 50 | 9 => 51 | 11 => 62 | 13 => 64 | 12 => 63 | 23 => 76 | 24 => 77 | 14 => 67 | 15 => 68 | 16 => 69 | 17 => 70 | 18 => 71 | 19 => 72 | 20 => 73 | 21 => 74 | 22 => 75 | 25 => 79 | 26 => 80 | 27 => 81 | 28 => 82 | 29 => 83 | 30 => 84 | 31 => 86 | n => n, fun | 26 => 3 | 28 => 87 | 24 => 43 | 0 => 0 | 3 => 3 | 37 => 89 | 48 => 97 | 50 => 105 | 4 => 4 | 40 => 123 | 39 => 122 | 45 => 127 | 5 => 5 | 9 => 9 | 51 => 131 | 55 => 135 | 57 => 138 | 58 => 139 | 33 => 74 | n => n, fun | n => n⟩
theorem sortedD : Go.Proofs.SlLaysZI.n6 Tryd.prog sortedD_ren := {
  mixed := by kernel_rfl
  f6 := ⟨Tryd.f39.name, by decide, Tryd.func39.trans (congrArg some (by kernel_rfl))⟩
  f8 := ⟨Tryd.f50.name, by decide, Tryd.func50.trans (congrArg some (by kernel_rfl))⟩
  f11 := ⟨Tryd.f62.name, by decide, Tryd.func62.trans (congrArg some (by kernel_rfl))⟩
  t0 := Tryd.underlying0
  a0 := Tryd.isAgg0
  z0 := Tryd.sizeOf0
  v0 := Tryd.zeroValue0
  t24 := Tryd.underlying43
  a24 := Tryd.isAgg43
  z24 := Tryd.sizeOf43
  v24 := Tryd.zeroValue43
  t26 := Tryd.underlying3
  a26 := Tryd.isAgg3
  z26 := Tryd.sizeOf3
  v26 := Tryd.zeroValue3
  t28 := Tryd.underlying87
  a28 := Tryd.isAgg87
  z28 := Tryd.sizeOf87
  v28 := Tryd.zeroValue87
  i26 := by kernel_rfl }

/-- slices.Sort's two contracts. -/
theorem sortsD (m : Nat) : AnyZI.SortsIn Tryd.prog sortedD_ren Fence.wide m :=
  ⟨fun blk off cap ss W hH hblk hsz => callsIn_wide.2 (slices_Sort_int blk off cap ss W hH hblk hsz),
   fun p cap W => callsIn_wide.2 (slices_Sort_int_none p cap W)⟩
theorem keys_calls (w : World) (mb : Option Nat) : Calls Tryd.prog 40 #[.map mb] w fun e w' => e = .returned (.func (.func 52) #[] #[.pointer (some ⟨w.heap.size, 0, none⟩)]) ∧ w' = w.alloc (.cells #[.map mb] 64) :=
  (callsIn_wide (n := 5)).1 (AnyZI.keys_in keysD Fence.wide 5 trivial rfl mb w)
/-- How the map's values read here: as nothing. -/
def blind (v : Value) : Option (DataW Unit × List MemPlace) := some (.nil, [])
theorem insert_perm {H : Type} (x : Lit × DataW H) : ∀ l, (DataW.insert x l).Perm (x :: l)
  | [] => .refl _
  | y :: r => by
    unfold DataW.insert
    split
    · exact .refl _
    · exact ((insert_perm x r).cons y).trans (.swap x y r)
theorem fold_perm {H : Type} : ∀ l : List (Lit × DataW H), (l.foldr DataW.insert []).Perm l
  | [] => .refl _
  | x :: r => (insert_perm x _).trans ((fold_perm r).cons x)
theorem own_of {w : World} {M clock : Nat} {l : List Ent} (hm : IMap w M l clock) (hk : (l.map (·.key)).Nodup) (hb : (l.map (·.born)).Nodup) (ho : ∀ e ∈ l, e.born < clock) (hr : ∀ e ∈ l, -9223372036854775808 ≤ e.key ∧ e.key ≤ 9223372036854775807) (hz : l.length ≤ maxLen) :
    ∃ D : DataW Unit, w.ownsMap Tryd.prog 3 blind M l.length D ∧ Maps.size D = l.length ∧ (intKeys D).Perm (l.map (·.key)) := by
  have hrg : ∀ e ∈ l, WideElems.rd Tryd.prog 3 blind e.entry = some ((.int .i64 e.key, .nil) : Lit × DataW Unit) := by
    intro e he
    have hw : (Lit.int .i64 e.key).wf = true := by
      have := hr e he
      unfold Lit.wf
      rw [Bool.and_eq_true, decide_eq_true_eq, decide_eq_true_eq]
      refine ⟨?_, ?_⟩
      · rw [show IntKind.i64.min = -9223372036854775808 from rfl]; exact this.1
      · rw [show IntKind.i64.max = 9223372036854775807 from rfl]; exact this.2
    unfold WideElems.rd blind
    rw [show keyOf Tryd.prog 3 e.entry.key = some (.int .i64 e.key) from Maps.keyOf_int_mk Tryd.underlying3 hw]
    rfl
  have hmap : (ents l).toList.map (WideElems.rg Tryd.prog 3 blind) = l.map (fun e => ((.int .i64 e.key, .nil) : Lit × DataW Unit)) := by
    rw [ents, List.toList_toArray, List.map_map]
    refine List.map_congr_left fun e he => ?_
    rw [Function.comp_apply, WideElems.rg, hrg e he]
    rfl
  refine ⟨_, ⟨ents l, clock, hm, ⟨by simpa [ents] using hz, ⟨?_, ?_, ?_⟩, ?_⟩, by simp [ents], rfl⟩, ?_, ?_⟩
  · intro x hx
    rw [ents, List.toList_toArray] at hx
    obtain ⟨e, he, rfl⟩ := List.mem_map.1 hx
    exact ho e he
  · rw [ents, List.toList_toArray, List.map_map]
    exact hb
  · rw [ents, List.toList_toArray, List.map_map]
    have := hk
    refine List.pairwise_map.2 ((List.pairwise_map.1 hk).imp fun h e => h ?_)
    simpa [Ent.entry] using e
  · intro x hx
    rw [ents, List.toList_toArray] at hx
    obtain ⟨e, he, rfl⟩ := List.mem_map.1 hx
    exact ⟨_, hrg e he⟩
  · rw [hmap, Maps.size_eq, (fold_perm _).length_eq, List.length_map]
  · rw [hmap]
    refine ((fold_perm _).map _).trans ?_
    rw [List.map_map]
    exact .refl _
set_option maxHeartbeats 1000000 in
/-- **slices.Sorted(maps.Keys(m))**, behind maps.Keys' call. -/
theorem sorted_calls {w : World} {M clock : Nat} {l : List Ent} (hm : IMap w M l clock) (hk : (l.map (·.key)).Nodup) (hb : (l.map (·.born)).Nodup) (ho : ∀ e ∈ l, e.born < clock) (hr : ∀ e ∈ l, -9223372036854775808 ≤ e.key ∧ e.key ≤ 9223372036854775807) (hz : l.length ≤ 1000000) :
    Calls Tryd.prog 39 #[.func (.func 52) #[] #[.pointer (some ⟨w.heap.size, 0, none⟩)]] (w.alloc (.cells #[.map (some M)] 64)) fun e w' => ∃ (v : Value) (ss : List Int), e = .returned v ∧ ss.Perm (l.map (·.key)) ∧
      w'.ownsRow (w.heap.size + 1) 3 1 v ss.length ((ss.mergeSort (fun x y => decide (x ≤ y))).map encZ) ∧ Below (w.heap.size + 1) (w.alloc (.cells #[.map (some M)] 64)) w' := by
  obtain ⟨D0, hown, hs, hp⟩ := own_of hm hk hb ho hr (by rw [maxLen]; omega)
  have hbl := hown.lt
  have hseq : SeqGives Fence.wide 2 Tryd.prog 52 #[.pointer (some ⟨w.heap.size, 0, none⟩)] encZ (fun ss => ss.Perm (intKeys D0)) (Maps.size D0) (w.alloc (.cells #[.map (some M)] 64)) :=
    AnyZI.keys_gives (ρ := keysD_ren) { keysD with } Fence.wide _ trivial rfl (by omega) w.heap.size M l.length D0 (R := blind) _ (by simp) (by simp) (by
      obtain ⟨es, clock, hb, Ft, hs, hD⟩ := hown
      exact ⟨es, clock, (Below.heap_alloc _ _ M hbl).trans hb, Ft, hs, hD⟩)
  have cS := AnyZI.sorted_in sortedD Fence.wide 5 trivial trivial trivial trivial rfl (by omega) (sortsD _) (enters_of Tryd.func51 (by kernel_rfl) rfl) 52 #[.pointer (some ⟨w.heap.size, 0, none⟩)] trivial (enters_of Tryd.func52 (by kernel_rfl) rfl) _ _ (by rw [hs, maxLen]; omega) (by rw [hs]; omega) _ hseq
  refine ((callsIn_wide (n := 5)).1 cS).mono ?_
  rintro e w' ⟨v, ss, rfl, hS, hrow, hnil, hb⟩
  rw [World.size_alloc] at hrow hb
  exact ⟨v, ss, rfl, hS.trans hp, hrow, hb⟩
end Go.Proofs.YtjbkkmgkckopdaaDoor.It
