/- Metas as bytes, and the pager over the device, plainly. -/
import Derived.Test.YtjbkkmgkckopdaaDoorNum
import Derived.Test.YtjbkkmgkckopdaaDoorDevPure
namespace Go.Proofs.YtjbkkmgkckopdaaDoor.Pg
open Go.Proofs.YtjbkkmgkckopdaaDoor.Num Go.Proofs.YtjbkkmgkckopdaaDoor.Dv
set_option linter.unusedVariables false
set_option linter.unusedSimpArgs false
structure M where
  txn : Int
  root : Int
  free : Int
  pages : Int
  limit : Int
deriving DecidableEq
def M.right (m : M) : Prop := 0 ≤ m.txn ∧ m.txn ≤ 1099511627776 ∧ 2 ≤ m.limit ∧ m.limit ≤ 512 ∧ 1 ≤ m.pages ∧ m.pages ≤ m.limit ∧ 0 ≤ m.root ∧ m.root ≤ m.pages - 1 ∧ 0 ≤ m.free ∧ m.free ≤ m.pages - 1
instance (m : M) : Decidable m.right := by unfold M.right; infer_instance
def mark : List UInt8 := [82, 79, 76, 76, 66, 79, 79, 75]
def M.head (m : M) : List UInt8 := mark ++ be 8 m.txn.toNat ++ be 4 m.root.toNat ++ be 4 m.free.toNat ++ be 4 m.pages.toNat ++ be 4 m.limit.toNat
section
variable (crc : S → Nat)
def M.bytes (m : M) : List UInt8 := m.head ++ be 4 (crc (ba m.head)) ++ List.replicate 92 0
/-- A meta's bytes. -/
def pack (m : M) : S × Int := if m.right then (ba (m.bytes crc), 0) else (ByteArray.empty, 4)
def i64 (n : Nat) : Int := if n < 9223372036854775808 then (n : Int) else (n : Int) - 18446744073709551616
def fld (s : S) (i sz : Nat) : Int := i64 (val ((s.data.toList.drop i).take sz))
def parse (s : S) : M := ⟨fld s 8 8, fld s 16 4, fld s 20 4, fld s 24 4, fld s 28 4⟩
/-- The meta of bytes. -/
def unpack (s : S) : Option M := if s.size = 128 ∧ s.data.toList.take 8 = mark ∧ (parse s).right ∧ ba ((parse s).bytes crc) = s then some (parse s) else none
/-- The newest meta of two, and where it stands. -/
def newest (a b : S) : Option (M × Nat) := match unpack crc a, unpack crc b with
  | none, none => none
  | none, some y => some (y, 1)
  | some x, none => some (x, 0)
  | some x, some y => if x.txn < y.txn then some (y, 1) else some (x, 0)
end
theorem head_length (m : M) : m.head.length = 32 := by simp [M.head, mark, be_length]
theorem bytes_length (crc : S → Nat) (m : M) : (m.bytes crc).length = 128 := by simp [M.bytes, head_length, be_length]
theorem i64_small {n : Nat} (h : n < 9223372036854775808) : i64 n = (n : Int) := if_pos h
theorem fld_part (a b c : List UInt8) (n sz : Nat) (hb : b = be sz n) (i : Nat) (ha : a.length = i) (hn : n < 256 ^ sz) (hn2 : n < 9223372036854775808) : fld (ba (a ++ b ++ c)) i sz = (n : Int) := by
  unfold fld
  rw [ba_data, ← ha]
  have h := take_part a b c
  rw [hb, be_length] at h
  rw [hb, h, val_be sz n hn, i64_small hn2]
theorem p8 : (9223372036854775808 : Nat) < 256 ^ 8 := by decide
theorem p4 : (256 : Nat) ^ 4 = 4294967296 := by decide
theorem bytes_eq (crc : S → Nat) (m : M) : M.bytes crc m = mark ++ (be 8 m.txn.toNat ++ (be 4 m.root.toNat ++ (be 4 m.free.toNat ++ (be 4 m.pages.toNat ++ (be 4 m.limit.toNat ++ (be 4 (crc (ba m.head)) ++ List.replicate 92 0)))))) := by
  simp only [M.bytes, M.head, List.append_assoc]
theorem fld_txn (crc : S → Nat) (m : M) (h0 : 0 ≤ m.txn) (h : m.txn ≤ 1099511627776) : fld (ba (m.bytes crc)) 8 8 = m.txn := by
  have e := fld_part mark (be 8 m.txn.toNat) (be 4 m.root.toNat ++ (be 4 m.free.toNat ++ (be 4 m.pages.toNat ++ (be 4 m.limit.toNat ++ (be 4 (crc (ba m.head)) ++ List.replicate 92 0))))) m.txn.toNat 8 rfl 8 rfl (Nat.lt_trans (by omega) p8) (by omega)
  rw [List.append_assoc] at e
  rw [bytes_eq, e]
  omega
theorem fld_root (crc : S → Nat) (m : M) (h0 : 0 ≤ m.root) (h : m.root ≤ 512) : fld (ba (m.bytes crc)) 16 4 = m.root := by
  have e := fld_part (mark ++ be 8 m.txn.toNat) (be 4 m.root.toNat) (be 4 m.free.toNat ++ (be 4 m.pages.toNat ++ (be 4 m.limit.toNat ++ (be 4 (crc (ba m.head)) ++ List.replicate 92 0)))) m.root.toNat 4 rfl 16 (by simp [mark, be_length]) (by rw [p4]; omega) (by omega)
  rw [List.append_assoc, List.append_assoc] at e
  rw [bytes_eq, e]
  omega
theorem fld_free (crc : S → Nat) (m : M) (h0 : 0 ≤ m.free) (h : m.free ≤ 512) : fld (ba (m.bytes crc)) 20 4 = m.free := by
  have e := fld_part (mark ++ (be 8 m.txn.toNat ++ be 4 m.root.toNat)) (be 4 m.free.toNat) (be 4 m.pages.toNat ++ (be 4 m.limit.toNat ++ (be 4 (crc (ba m.head)) ++ List.replicate 92 0))) m.free.toNat 4 rfl 20 (by simp [mark, be_length]) (by rw [p4]; omega) (by omega)
  simp only [List.append_assoc] at e
  rw [bytes_eq, e]
  omega
theorem fld_pages (crc : S → Nat) (m : M) (h0 : 0 ≤ m.pages) (h : m.pages ≤ 512) : fld (ba (m.bytes crc)) 24 4 = m.pages := by
  have e := fld_part (mark ++ (be 8 m.txn.toNat ++ (be 4 m.root.toNat ++ be 4 m.free.toNat))) (be 4 m.pages.toNat) (be 4 m.limit.toNat ++ (be 4 (crc (ba m.head)) ++ List.replicate 92 0)) m.pages.toNat 4 rfl 24 (by simp [mark, be_length]) (by rw [p4]; omega) (by omega)
  simp only [List.append_assoc] at e
  rw [bytes_eq, e]
  omega
theorem fld_limit (crc : S → Nat) (m : M) (h0 : 0 ≤ m.limit) (h : m.limit ≤ 512) : fld (ba (m.bytes crc)) 28 4 = m.limit := by
  have e := fld_part (mark ++ (be 8 m.txn.toNat ++ (be 4 m.root.toNat ++ (be 4 m.free.toNat ++ be 4 m.pages.toNat)))) (be 4 m.limit.toNat) (be 4 (crc (ba m.head)) ++ List.replicate 92 0) m.limit.toNat 4 rfl 28 (by simp [mark, be_length]) (by rw [p4]; omega) (by omega)
  simp only [List.append_assoc] at e
  rw [bytes_eq, e]
  omega
theorem parse_bytes (crc : S → Nat) (m : M) (h : m.right) : parse (ba (m.bytes crc)) = m := by
  obtain ⟨h1, h2, h3, h4, h5, h6, h7, h8, h9, h10⟩ := h
  unfold parse
  rw [fld_txn crc m h1 h2, fld_root crc m h7 (by omega), fld_free crc m h9 (by omega), fld_pages crc m (by omega) (by omega), fld_limit crc m (by omega) h4]
theorem unpack_bytes (crc : S → Nat) (m : M) (h : m.right) : unpack crc (ba (m.bytes crc)) = some m := by
  unfold unpack
  rw [parse_bytes crc m h, if_pos]
  refine ⟨by rw [ba_size, bytes_length], ?_, h, rfl⟩
  rw [ba_data]
  simp [M.bytes, M.head, mark, List.take_append]
theorem unpack_zero (crc : S → Nat) : unpack crc zero128 = none := by
  unfold unpack
  rw [if_neg]
  rintro ⟨_, h, _⟩
  simp [zero128, mark, List.replicate] at h
theorem unpack_right {crc : S → Nat} {s : S} {m : M} (h : unpack crc s = some m) : m.right := by
  unfold unpack at h
  split at h
  · rename_i hc
    rw [← Option.some.inj h]
    exact hc.2.2.1
  · cases h
theorem newest_right {crc : S → Nat} {a b : S} {m : M} {k : Nat} (h : newest crc a b = some (m, k)) : m.right ∧ k ≤ 1 := by
  unfold newest at h
  cases ha : unpack crc a <;> cases hb : unpack crc b <;> rw [ha, hb] at h
  · cases h
  · cases h; exact ⟨unpack_right hb, Nat.le_refl _⟩
  · cases h; exact ⟨unpack_right ha, Nat.zero_le _⟩
  · dsimp only at h
    split at h
    · cases h; exact ⟨unpack_right hb, Nat.le_refl _⟩
    · cases h; exact ⟨unpack_right ha, Nat.zero_le _⟩
/-! ### the pager -/
/-- The pager's metas: the present one, the other one (is there one?), the sealed one. -/
structure G where
  cur : M
  oth : M
  both : Bool
  shut : Option M
def M.zero : M := ⟨0, 0, 0, 0, 0⟩
section
variable (crc : S → Nat)
def opened (d : D) : Option G × Int :=
  if (d.read 0).2 ≠ 0 then (none, (d.read 0).2)
  else if (d.read 1).2 ≠ 0 then (none, (d.read 1).2)
  else match newest crc (d.read 0).1 (d.read 1).1 with
    | none => (none, 4)
    | some (m, k) => if ((d.lasts.length / 4 : Nat) : Int) < m.limit then (none, 4)
      else (some ⟨m, (unpack crc (if k = 0 then (d.read 1).1 else (d.read 0).1)).getD M.zero, (unpack crc (if k = 0 then (d.read 1).1 else (d.read 0).1)).isSome, none⟩, 0)
def format (d : D) (limit : Int) : D × Int :=
  if limit < 4 ∨ 512 < limit ∨ (d.lasts.length : Int) < 4 * limit then (d, 1)
  else if (d.write 0 (ba (M.bytes crc ⟨0, 0, 0, 1, limit⟩))).2 ≠ 0 then d.write 0 (ba (M.bytes crc ⟨0, 0, 0, 1, limit⟩))
  else if ((d.write 0 (ba (M.bytes crc ⟨0, 0, 0, 1, limit⟩))).1.write 1 (ba (M.bytes crc ⟨1, 0, 0, 1, limit⟩))).2 ≠ 0 then (d.write 0 (ba (M.bytes crc ⟨0, 0, 0, 1, limit⟩))).1.write 1 (ba (M.bytes crc ⟨1, 0, 0, 1, limit⟩))
  else ((d.write 0 (ba (M.bytes crc ⟨0, 0, 0, 1, limit⟩))).1.write 1 (ba (M.bytes crc ⟨1, 0, 0, 1, limit⟩))).1.sync
def seals (d : D) (g : G) (m : M) : D × G × Int :=
  if ¬ m.right ∨ m.limit ≠ g.cur.limit then (d, g, 4)
  else if m.txn - 1 ≠ g.cur.txn ∨ g.shut ≠ none then (d, g, 11)
  else if (d.write (m.txn % 2) (ba (m.bytes crc))).2 ≠ 0 then ((d.write (m.txn % 2) (ba (m.bytes crc))).1, g, (d.write (m.txn % 2) (ba (m.bytes crc))).2)
  else ((d.write (m.txn % 2) (ba (m.bytes crc))).1, { g with shut := some m }, 0)
def done (d : D) (g : G) : D × G × Int := match g.shut with
  | none => (d, g, 11)
  | some m => if d.sync.2 ≠ 0 then (d.sync.1, g, d.sync.2) else (d.sync.1, ⟨m, g.cur, true, none⟩, 0)
end
/-! ### what they answer -/
/-- The device is on, nothing waits, no fuse burns. -/
structure Calm (d : D) : Prop where
  off : d.off = false
  fuse : d.fuse = 0
  waits : d.waits = []
/-- The sectors 0 and 1 of a file whose present meta is m. -/
structure File (crc : S → Nat) (d : D) (m : M) : Prop where
  calm : Calm d
  two : 2 ≤ d.lasts.length
  good : m.right
  one : 1 ≤ m.txn
  here : d.lasts[(m.txn % 2).toNat]? = some (ba (m.bytes crc))
  there : ∃ s o, d.lasts[((m.txn + 1) % 2).toNat]? = some s ∧ unpack crc s = some o ∧ o.txn < m.txn
theorem read_calm {d : D} (h : Calm d) (i : Nat) (s : S) (hi : d.lasts[i]? = some s) : d.read (i : Int) = (s, 0) := by
  have hl : i < d.lasts.length := by
    rcases Nat.lt_or_ge i d.lasts.length with h1 | h1
    · exact h1
    · rw [List.getElem?_eq_none h1] at hi; cases hi
  unfold D.read
  rw [if_neg (by omega), if_neg (by rw [h.off]; decide), h.waits]
  simp [look, hi, List.getD_eq_getElem?_getD]
theorem newest_two {crc : S → Nat} {a b : S} {x y : M} (ha : unpack crc a = some x) (hb : unpack crc b = some y) : newest crc a b = if x.txn < y.txn then some (y, 1) else some (x, 0) := by
  unfold newest
  rw [ha, hb]
theorem file_opens {crc : S → Nat} {d : D} {m : M} (h : File crc d m) (hl : m.limit ≤ ((d.lasts.length / 4 : Nat) : Int)) : ∃ g, opened crc d = (some g, 0) ∧ g.cur = m ∧ g.shut = none ∧ g.both = true := by
  obtain ⟨s, o, h1, h2, h3⟩ := h.there
  have h4 := h.here
  have hu := unpack_bytes crc m h.good
  unfold opened
  rcases (by omega : m.txn % 2 = 0 ∨ m.txn % 2 = 1) with e | e
  · have e2 : (m.txn + 1) % 2 = 1 := by omega
    rw [e] at h4
    rw [e2] at h1
    have r0 := read_calm h.calm 0 _ h4
    have r1 := read_calm h.calm 1 _ h1
    rw [Int.natCast_zero] at r0
    rw [Int.natCast_one] at r1
    rw [r0, r1, if_neg (by simp), if_neg (by simp), newest_two hu h2, if_neg (by omega)]
    dsimp only
    rw [if_neg (by omega)]
    exact ⟨_, rfl, rfl, rfl, by simp [h2]⟩
  · have e2 : (m.txn + 1) % 2 = 0 := by omega
    rw [e] at h4
    rw [e2] at h1
    have r0 := read_calm h.calm 0 _ h1
    have r1 := read_calm h.calm 1 _ h4
    rw [Int.natCast_zero] at r0
    rw [Int.natCast_one] at r1
    rw [r0, r1, if_neg (by simp), if_neg (by simp), newest_two h2 hu, if_pos (by omega)]
    dsimp only
    rw [if_neg (by omega)]
    exact ⟨_, rfl, rfl, rfl, by simp [h2]⟩
/-! ### what is written -/
def blank (n : Nat) : D := ⟨List.replicate n zero128, [], false, 0, 0, 0⟩
theorem settle_get (l : List S) (w : List (Nat × List S)) (i : Nat) : (settle l w)[i]? = (l[i]?).map (fun s => (look w i).getLast?.getD s) := by
  unfold settle
  rw [List.getElem?_mapIdx]
theorem settle_length (l : List S) (w : List (Nat × List S)) : (settle l w).length = l.length := by simp [settle]
theorem step_on {d : D} (ho : d.off = false) (hf : d.fuse ≠ 1) : d.step = ({ d with steps := d.steps + 1, fuse := max 0 (d.fuse - 1) }, true) := by
  unfold D.step
  rw [if_neg (by rw [ho]; exact Bool.false_ne_true), if_neg hf]
theorem step_burns {d : D} (ho : d.off = false) (hf : d.fuse = 1) : d.step = ({ d with steps := d.steps + 1, off := true, fuse := 0 }, false) := by
  unfold D.step
  rw [if_neg (by rw [ho]; exact Bool.false_ne_true), if_pos hf]
theorem write_on {d : D} (ho : d.off = false) (hf : d.fuse ≠ 1) (i : Nat) (s : S) (hi : i < d.lasts.length) (hs : s.size = 128) :
    ∃ d', d.write (i : Int) s = (d', 0) ∧ d'.lasts = d.lasts ∧ d'.waits = more d.waits i s ∧ d'.off = false ∧ d'.fuse = max 0 (d.fuse - 1) := by
  unfold D.write
  rw [step_on ho hf, if_neg (by omega), if_neg (fun h => Bool.noConfusion h)]
  exact ⟨_, rfl, rfl, rfl, ho, rfl⟩
theorem write_burns {d : D} (ho : d.off = false) (hf : d.fuse = 1) (i : Nat) (s : S) (hi : i < d.lasts.length) (hs : s.size = 128) :
    ∃ d', d.write (i : Int) s = (d', 6) ∧ d'.lasts = d.lasts ∧ d'.waits = d.waits ∧ d'.off = true ∧ d'.fuse = 0 := by
  unfold D.write
  rw [step_burns ho hf, if_neg (by omega), if_pos rfl]
  exact ⟨_, rfl, rfl, rfl, rfl, rfl⟩
theorem sync_on {d : D} (ho : d.off = false) (hf : d.fuse ≠ 1) : ∃ d', d.sync = (d', 0) ∧ d'.lasts = settle d.lasts d.waits ∧ d'.waits = [] ∧ d'.off = false ∧ d'.fuse = max 0 (d.fuse - 1) := by
  unfold D.sync
  rw [step_on ho hf, if_neg (fun h => Bool.noConfusion h)]
  exact ⟨_, rfl, rfl, rfl, ho, rfl⟩
theorem sync_burns {d : D} (ho : d.off = false) (hf : d.fuse = 1) : ∃ d', d.sync = (d', 6) ∧ d'.lasts = d.lasts ∧ d'.waits = d.waits ∧ d'.off = true ∧ d'.fuse = 0 := by
  unfold D.sync
  rw [step_burns ho hf, if_pos rfl]
  exact ⟨_, rfl, rfl, rfl, rfl, rfl⟩
theorem bytes_size (crc : S → Nat) (m : M) : (ba (m.bytes crc)).size = 128 := by rw [ba_size, bytes_length]
theorem right_first (t : Int) (limit : Int) (h0 : 0 ≤ t) (h1 : t ≤ 1) (h4 : 4 ≤ limit) (h5 : limit ≤ 512) : M.right ⟨t, 0, 0, 1, limit⟩ := by
  unfold M.right
  dsimp only
  omega
/-- Formatted: all went well. -/
theorem formats {crc : S → Nat} {d : D} (hc : Calm d) (limit : Int) (h4 : 4 ≤ limit) (h5 : limit ≤ 512) (hl : 4 * limit ≤ (d.lasts.length : Int)) :
    ∃ d', format crc d limit = (d', 0) ∧ File crc d' ⟨1, 0, 0, 1, limit⟩ ∧ d'.lasts.length = d.lasts.length := by
  obtain ⟨d1, w0, a1, a2, a3, a4⟩ := write_on hc.off (by rw [hc.fuse]; omega) 0 (ba (M.bytes crc ⟨0, 0, 0, 1, limit⟩)) (by omega) (bytes_size _ _)
  obtain ⟨d2, w1, b1, b2, b3, b4⟩ := write_on a3 (by rw [a4, hc.fuse]; omega) 1 (ba (M.bytes crc ⟨1, 0, 0, 1, limit⟩)) (by rw [a1]; omega) (bytes_size _ _)
  obtain ⟨d3, w2, c1, c2, c3, c4⟩ := sync_on b3 (by rw [b4, a4, hc.fuse]; omega)
  rw [Int.natCast_zero] at w0
  rw [Int.natCast_one] at w1
  unfold format
  rw [if_neg (by omega), w0, if_neg (by exact fun h => h rfl)]
  dsimp only
  rw [w1, if_neg (by exact fun h => h rfl), w2]
  rw [b2, a2, hc.waits, b1, a1] at c1
  have hlen : d3.lasts.length = d.lasts.length := by rw [c1, settle_length]
  refine ⟨d3, rfl, ⟨⟨c3, by rw [c4, b4, a4, hc.fuse]; omega, c2⟩, by omega, right_first _ _ (by omega) (by omega) h4 h5, by dsimp only; omega, ?_, ⟨_, ⟨0, 0, 0, 1, limit⟩, ?_, unpack_bytes crc _ (right_first _ _ (by omega) (by omega) h4 h5), by dsimp only; omega⟩⟩, hlen⟩
  · show d3.lasts[1]? = _
    rw [c1, settle_get, List.getElem?_eq_getElem (by omega)]
    rfl
  · show d3.lasts[0]? = _
    rw [c1, settle_get, List.getElem?_eq_getElem (by omega)]
    rfl
theorem format_no {crc : S → Nat} {d : D} {limit : Int} (h : limit < 4 ∨ 512 < limit ∨ (d.lasts.length : Int) < 4 * limit) : format crc d limit = (d, 1) := if_pos h
theorem opened_blank (crc : S → Nat) (n : Nat) (h : 1 ≤ n) : opened crc (blank n) = (none, if n < 2 then 1 else 4) := by
  have c : Calm (blank n) := ⟨rfl, rfl, rfl⟩
  have r0 := read_calm c 0 zero128 (by simp [blank, List.getElem?_replicate]; omega)
  rw [Int.natCast_zero] at r0
  unfold opened
  rw [r0, if_neg (by decide)]
  by_cases h2 : n < 2
  · rw [if_pos h2]
    have e : (blank n).read 1 = (ByteArray.empty, 1) := by
      unfold D.read
      rw [if_pos (.inr (by simp [blank]; omega))]
    rw [e, if_pos (by decide)]
  · have r1 := read_calm c 1 zero128 (by simp [blank, List.getElem?_replicate]; omega)
    rw [Int.natCast_one] at r1
    rw [r1, if_neg (by decide), if_neg h2]
    unfold newest
    rw [unpack_zero]
/-! ### sealed, done -/
theorem File.kept {crc : S → Nat} {d d' : D} {m : M} (h : File crc d m) (hc : Calm d') (hl : d'.lasts = d.lasts) : File crc d' m :=
  ⟨hc, by rw [hl]; exact h.two, h.good, h.one, by rw [hl]; exact h.here, by rw [hl]; exact h.there⟩
theorem File.next {crc : S → Nat} {d d' : D} {m m2 : M} (h : File crc d m) (hc : Calm d') (hg : m2.right) (ht : m2.txn = m.txn + 1) (hl : d'.lasts = d.lasts.set (m2.txn % 2).toNat (ba (m2.bytes crc))) : File crc d' m2 := by
  have h1 := h.one
  have h2 := h.two
  refine ⟨hc, by rw [hl, List.length_set]; exact h.two, hg, by omega, by rw [hl, List.getElem?_set_self (by omega)], ⟨_, m, ?_, unpack_bytes crc m h.good, by omega⟩⟩
  rw [hl, List.getElem?_set_ne (by omega), ← h.here]
  congr 2
  omega
theorem settle_one (l : List S) (k : Nat) (s : S) : settle l [(k, [s])] = l.set k s := by
  apply List.ext_getElem?
  intro i
  rw [settle_get, List.getElem?_set]
  by_cases e : k = i
  · subst e
    rw [if_pos rfl]
    by_cases hl : k < l.length
    · rw [if_pos hl, List.getElem?_eq_getElem hl]
      simp [look]
    · rw [if_neg hl, List.getElem?_eq_none (by omega)]
      rfl
  · rw [if_neg e]
    simp [look, e]
theorem start_none (picks : List Int) : ∀ (l : List S) (i j : Nat), Dv.start picks (look []) l i j = l
  | [], _, _ => rfl
  | s :: r, i, j => by
    rw [Dv.start, if_pos (by rfl), start_none picks r (i + 1) j]
theorem start_far (picks : List Int) (k : Nat) (s : S) : ∀ (l : List S) (i j : Nat), k < i → Dv.start picks (look [(k, [s])]) l i j = l
  | [], _, _, _ => rfl
  | x :: r, i, j, h => by
    rw [Dv.start, if_pos (by simp [look]; omega), start_far picks k s r (i + 1) j (by omega)]
theorem start_one (picks : List Int) (k : Nat) (s : S) : ∀ (l : List S) (i j : Nat), i ≤ k → Dv.start picks (look [(k, [s])]) l i j = l ∨ Dv.start picks (look [(k, [s])]) l i j = l.set (k - i) s
  | [], _, _, _ => .inl rfl
  | x :: r, i, j, h => by
    by_cases e : k = i
    · subst e
      have hl : look [(k, [s])] k = [s] := by simp [look]
      rw [Dv.start, hl, if_neg (by simp), start_far picks k s r (k + 1) (j + 1) (by omega), Nat.sub_self]
      split
      · exact .inl rfl
      · rename_i hp
        have : pick picks j [s].length - 1 = 0 := by
          have : pick picks j 1 < 2 := by
            unfold pick
            split
            · omega
            · exact Nat.mod_lt _ (by omega)
          rw [List.length_singleton]
          omega
        rw [this]
        exact .inr rfl
    · have hl : look [(k, [s])] i = [] := by simp [look, e]
      rw [Dv.start, hl, if_pos rfl]
      have e2 : k - i = (k - (i + 1)) + 1 := by omega
      rw [e2, List.set_cons_succ]
      rcases start_one picks k s r (i + 1) j (by omega) with h1 | h1
      · exact .inl (by rw [h1])
      · exact .inr (by rw [h1])
theorem seals_eq {crc : S → Nat} {d : D} {g : G} {m2 : M} (hs : g.shut = none) (hr : m2.right) (ht : m2.txn = g.cur.txn + 1) (hl : m2.limit = g.cur.limit) {d' : D} {e : Int} (hw : d.write (m2.txn % 2) (ba (m2.bytes crc)) = (d', e)) :
    seals crc d g m2 = if e ≠ 0 then (d', g, e) else (d', { g with shut := some m2 }, 0) := by
  unfold seals
  rw [if_neg (by rintro (h | h); exact h hr; exact h hl), if_neg (by rintro (h | h); exact h (by omega); exact h hs), hw]
theorem done_eq {d : D} {g : G} {m2 : M} (hs : g.shut = some m2) {d' : D} {e : Int} (hw : d.sync = (d', e)) : done d g = if e ≠ 0 then (d', g, e) else (d', ⟨m2, g.cur, true, none⟩, 0) := by
  unfold done
  rw [hs, hw]
/-- A seal and its done, without a fuse. -/
theorem sealed_done {crc : S → Nat} {d : D} {g : G} {m m2 : M} (h : File crc d m) (hg : g.cur = m) (hs : g.shut = none) (hr : m2.right) (ht : m2.txn = m.txn + 1) (hl : m2.limit = m.limit) :
    ∃ d1 d2, seals crc d g m2 = (d1, { g with shut := some m2 }, 0) ∧ done d1 { g with shut := some m2 } = (d2, ⟨m2, m, true, none⟩, 0) ∧ File crc d2 m2 ∧ d2.lasts.length = d.lasts.length := by
  have h1 := h.one
  have h2 := h.two
  have hk : m2.txn % 2 = ((m2.txn % 2).toNat : Int) := by omega
  obtain ⟨d1, w, a1, a2, a3, a4⟩ := write_on h.calm.off (by rw [h.calm.fuse]; omega) (m2.txn % 2).toNat (ba (m2.bytes crc)) (by omega) (bytes_size _ _)
  rw [← hk] at w
  obtain ⟨d2, w2, b1, b2, b3, b4⟩ := sync_on a3 (by rw [a4, h.calm.fuse]; omega)
  rw [a1, a2, h.calm.waits, more, settle_one] at b1
  refine ⟨d1, d2, ?_, ?_, h.next ⟨b3, by rw [b4, a4, h.calm.fuse]; omega, b2⟩ hr ht b1, by rw [b1, List.length_set]⟩
  · rw [seals_eq hs hr (by rw [hg]; exact ht) (by rw [hg]; exact hl) w, if_neg (fun h => h rfl)]
  · rw [done_eq rfl w2, if_neg (fun h => h rfl), ← hg]
/-- A seal, its done, a loss of power, a start: OLD OR NEW. -/
def afresh (d : D) (picks : List Int) : D := ((if d.off = false then d.cut.1 else d).start picks).1
theorem afresh_is {d : D} (picks : List Int) (h : d.off = true → d.fuse = 0) : Calm (afresh d picks) ∧ (afresh d picks).lasts = Dv.start picks (look d.waits) d.lasts 0 0 := by
  unfold afresh
  by_cases ho : d.off = false
  · rw [if_pos ho]
    unfold D.cut
    rw [if_neg (by rw [ho]; exact Bool.false_ne_true)]
    unfold D.start
    rw [if_neg (fun h => Bool.noConfusion h)]
    exact ⟨⟨rfl, rfl, rfl⟩, rfl⟩
  · have ho' : d.off = true := by cases h : d.off with | false => exact absurd h ho | true => rfl
    rw [if_neg ho]
    unfold D.start
    rw [if_neg ho]
    exact ⟨⟨rfl, h ho', rfl⟩, rfl⟩
theorem old_kept {crc : S → Nat} {d d' : D} {m : M} (h : File crc d m) (hlim : m.limit ≤ ((d.lasts.length / 4 : Nat) : Int)) (hc : Calm d') (hl : d'.lasts = d.lasts) : ∃ q, opened crc d' = (some q, 0) ∧ q.cur = m ∧ q.shut = none := by
  obtain ⟨q, q1, q2, q3, _⟩ := file_opens (h.kept hc hl) (by rw [hl]; exact hlim)
  exact ⟨q, q1, q2, q3⟩
theorem new_comes {crc : S → Nat} {d d' : D} {m m2 : M} (h : File crc d m) (hlim : m.limit ≤ ((d.lasts.length / 4 : Nat) : Int)) (hr : m2.right) (ht : m2.txn = m.txn + 1) (hlm : m2.limit = m.limit) (hc : Calm d') (hl : d'.lasts = d.lasts.set (m2.txn % 2).toNat (ba (m2.bytes crc))) :
    ∃ q, opened crc d' = (some q, 0) ∧ q.cur = m2 ∧ q.shut = none := by
  obtain ⟨q, q1, q2, q3, _⟩ := file_opens (h.next hc hr ht hl) (by rw [hl, List.length_set, hlm]; exact hlim)
  exact ⟨q, q1, q2, q3⟩
/-- A fuse is laid; a seal; if it went well its done; then the power goes, and comes. Either the seal falls, or it goes well and the done falls or goes well. -/
theorem commits {crc : S → Nat} {d : D} {g : G} {m m2 : M} (h : File crc d m) (hg : g.cur = m) (hs : g.shut = none) (hr : m2.right) (ht : m2.txn = m.txn + 1) (hl : m2.limit = m.limit) (hlim : m.limit ≤ ((d.lasts.length / 4 : Nat) : Int)) (n : Int) :
    ∃ d0, d.fused n = (d0, 0) ∧
      ((∃ d1, seals crc d0 g m2 = (d1, g, 6) ∧ ∀ picks, ∃ q, opened crc (afresh d1 picks) = (some q, 0) ∧ q.cur = m) ∨
       (∃ d1, seals crc d0 g m2 = (d1, { g with shut := some m2 }, 0) ∧
         ((∃ d2, done d1 { g with shut := some m2 } = (d2, { g with shut := some m2 }, 6) ∧ ∀ picks, ∃ q, opened crc (afresh d2 picks) = (some q, 0) ∧ (q.cur = m ∨ q.cur = m2)) ∨
          (∃ d2, done d1 { g with shut := some m2 } = (d2, ⟨m2, m, true, none⟩, 0) ∧ ∀ picks, ∃ q, opened crc (afresh d2 picks) = (some q, 0) ∧ q.cur = m2)))) := by
  have h1 := h.one
  have h2 := h.two
  have hk : m2.txn % 2 = ((m2.txn % 2).toNat : Int) := by omega
  obtain ⟨d0, f0, f1, f2, f3, f4⟩ : ∃ d0, d.fused n = (d0, 0) ∧ d0.lasts = d.lasts ∧ d0.waits = [] ∧ d0.off = false ∧ d0.fuse = max 0 n := by
    unfold D.fused
    rw [if_neg (by rw [h.calm.off]; exact Bool.false_ne_true)]
    exact ⟨_, rfl, rfl, h.calm.waits, h.calm.off, rfl⟩
  refine ⟨d0, f0, ?_⟩
  by_cases n1 : d0.fuse = 1
  · obtain ⟨d1, w, a1, a2, a3, a4⟩ := write_burns f3 n1 (m2.txn % 2).toNat (ba (m2.bytes crc)) (by rw [f1]; omega) (bytes_size _ _)
    rw [← hk] at w
    refine .inl ⟨d1, by rw [seals_eq hs hr (by rw [hg]; exact ht) (by rw [hg]; exact hl) w, if_pos (by omega)], fun picks => ?_⟩
    obtain ⟨c, e⟩ := afresh_is picks (fun _ => a4)
    rw [a2, f2, start_none, a1, f1] at e
    obtain ⟨q, q1, q2, _⟩ := old_kept h hlim c e
    exact ⟨q, q1, q2⟩
  · obtain ⟨d1, w, a1, a2, a3, a4⟩ := write_on f3 n1 (m2.txn % 2).toNat (ba (m2.bytes crc)) (by rw [f1]; omega) (bytes_size _ _)
    rw [← hk] at w
    rw [f2, more] at a2
    refine .inr ⟨d1, by rw [seals_eq hs hr (by rw [hg]; exact ht) (by rw [hg]; exact hl) w, if_neg (fun h => h rfl)], ?_⟩
    by_cases n2 : d1.fuse = 1
    · obtain ⟨d2, w2, b1, b2, b3, b4⟩ := sync_burns a3 n2
      refine .inl ⟨d2, by rw [done_eq rfl w2, if_pos (by omega)], fun picks => ?_⟩
      obtain ⟨c, e⟩ := afresh_is picks (fun _ => b4)
      rw [b2, a2, b1, a1, f1] at e
      rcases start_one picks (m2.txn % 2).toNat (ba (m2.bytes crc)) d.lasts 0 0 (Nat.zero_le _) with e2 | e2
      · rw [e2] at e
        obtain ⟨q, q1, q2, _⟩ := old_kept h hlim c e
        exact ⟨q, q1, .inl q2⟩
      · rw [e2, Nat.sub_zero] at e
        obtain ⟨q, q1, q2, _⟩ := new_comes h hlim hr ht hl c e
        exact ⟨q, q1, .inr q2⟩
    · obtain ⟨d2, w2, b1, b2, b3, b4⟩ := sync_on a3 n2
      refine .inr ⟨d2, by rw [done_eq rfl w2, if_neg (fun h => h rfl), ← hg], fun picks => ?_⟩
      obtain ⟨c, e⟩ := afresh_is picks (fun h => by rw [b3] at h; exact Bool.noConfusion h)
      rw [a2, a1, f1, settle_one] at b1
      rw [b2, start_none, b1] at e
      obtain ⟨q, q1, q2, _⟩ := new_comes h hlim hr ht hl c e
      exact ⟨q, q1, q2⟩
end Go.Proofs.YtjbkkmgkckopdaaDoor.Pg
