/-
  What is proved: how a disk (colloquy/vfs.FS) lies in memory, and what its map's operations come to; no condition.
-/
import Derived.Test.YthjdgiobchiloaaMem
import Derived.Test.YthjdgiobchiloaaProg
import Derived.Maps.Ext
import Derived.StringKeys
import Derived.KernelRfl
namespace Go.Proofs.Ythjdgiobchiloaa
open Go.RowKit Go.Proofs.YthjdgiobchiloaaW.PrintWords Go.Maps
set_option linter.unusedVariables false
set_option linter.unusedSimpArgs false

/-- A file: its name, its block, its bytes' slice, its bytes, how many are safe. -/
structure FileM where
  nm : ByteArray
  fb : Nat
  v : Value
  bs : List Int
  safe : Nat

/-- A disk: its map's block, its files by rising names. -/
structure FSm where
  mb : Nat
  fl : List FileM
  most : Int
  fuse : Int
  down : Bool

def usedL : List FileM → Nat
  | [] => 0
  | f :: r => f.bs.length + usedL r
def FSm.used (s : FSm) : Int := usedL s.fl

/-- How a *file reads. -/
def Rp : Value → Option (DataW Unit × List MemPlace)
  | .pointer (some ⟨b, 0, none⟩) => some (.lit (.int .u64 b), [])
  | .pointer none => some (.nil, [])
  | _ => none
def key (s : ByteArray) : Lit := .string s.data.toList
def FileM.entry (f : FileM) : Lit × DataW Unit := (key f.nm, .lit (.int .u64 f.fb))
def datum (fl : List FileM) : DataW Unit := .map (fl.map FileM.entry)
/-- A file, or nil. -/
def ptr : Option FileM → Value
  | some f => .pointer (some ⟨f.fb, 0, none⟩)
  | none => .pointer none

def FileAt (w : World) (base : Nat) (f : FileM) : Prop :=
  w.heap[f.fb]? = some (.cells #[f.v, .int .i64 f.safe] 92 (0, 0)) ∧ base ≤ f.fb ∧ w.ownsRow base 5 1 f.v f.bs.length (nums .u8 f.bs) ∧ f.safe ≤ f.bs.length ∧ f.nm.size ≤ maxLen
def apartF (f g : FileM) : Prop := f.fb ≠ g.fb ∧ ∀ k, f.v.ownBlock = some k → g.v.ownBlock ≠ some k

structure FSAt (w : World) (base d : Nat) (s : FSm) : Prop where
  blk : w.heap[d]? = some (.cells #[.map (some s.mb), .int .i64 s.most, .int .i64 s.used, .int .i64 s.fuse, .bool s.down] 87 (0, 0))
  map : w.ownsMap Try.prog 9 Rp s.mb s.fl.length (datum s.fl)
  files : ∀ f ∈ s.fl, FileAt w base f
  apart : s.fl.Pairwise apartF
  baseD : base ≤ d
  baseM : base ≤ s.mb
  most0 : 0 ≤ s.most
  most1 : s.most ≤ 9223372036854775807
  room : s.used ≤ s.most
  fuse0 : 0 ≤ s.fuse
  fuse1 : s.fuse ≤ 9223372036854775807
  names : s.fl.Pairwise (fun f g => bytesBefore f.nm.data.toList g.nm.data.toList = true)

/-- The blocks of a disk. -/
def foot (d : Nat) (s : FSm) (k : Nat) : Prop := k = d ∨ k = s.mb ∨ ∃ f ∈ s.fl, k = f.fb ∨ f.v.ownBlock = some k

theorem FileAt.step {S : Nat → Prop} {w w' : World} {base : Nat} {f : FileM} (h : FileAt w base f) (k : Keeps S w w') (h1 : ¬ S f.fb) (h2 : ∀ b, f.v.ownBlock = some b → ¬ S b) : FileAt w' base f :=
  ⟨k.blk h.1 h1, h.2.1, k.own h.2.2.1 h2, h.2.2.2⟩
theorem FSAt.step {S : Nat → Prop} {w w' : World} {base d : Nat} {s : FSm} (h : FSAt w base d s) (k : Keeps S w w') (hS : ∀ b, foot d s b → ¬ S b) : FSAt w' base d s where
  blk := k.blk h.blk (hS d (.inl rfl))
  map := k.owm h.map (hS _ (.inr (.inl rfl)))
  files := fun f hf => (h.files f hf).step k (hS _ (.inr (.inr ⟨f, hf, .inl rfl⟩))) (fun b hb => hS _ (.inr (.inr ⟨f, hf, .inr hb⟩)))
  apart := h.apart
  baseD := h.baseD
  baseM := h.baseM
  most0 := h.most0
  most1 := h.most1
  room := h.room
  fuse0 := h.fuse0
  fuse1 := h.fuse1
  names := h.names
theorem FSAt.foot_lt {w : World} {base d : Nat} {s : FSm} (h : FSAt w base d s) {k : Nat} (hk : foot d s k) : base ≤ k ∧ k < w.heap.size := by
  rcases hk with rfl | rfl | ⟨f, hf, rfl | hk⟩
  · exact ⟨h.baseD, blk_lt h.blk⟩
  · exact ⟨h.baseM, h.map.lt⟩
  · exact ⟨(h.files f hf).2.1, blk_lt (h.files f hf).1⟩
  · exact ⟨own_base (h.files f hf).2.2.1 _ hk, own_lt (h.files f hf).2.2.1 _ hk⟩
theorem FSAt.below {w w' : World} {base d : Nat} {s : FSm} (h : FSAt w base d s) (hb : Below w.heap.size w w') : FSAt w' base d s :=
  h.step (S := fun _ => False) (Keeps.of_below hb _) (fun _ _ h => h)

theorem FSAt.cell {w : World} {base d : Nat} {s : FSm} (h : FSAt w base d s) :
    w.cell? ⟨d, 0, none⟩ = some (.map (some s.mb)) ∧ w.cell? ⟨d, 1, none⟩ = some (.int .i64 s.most) ∧ w.cell? ⟨d, 2, none⟩ = some (.int .i64 s.used) ∧ w.cell? ⟨d, 3, none⟩ = some (.int .i64 s.fuse) ∧ w.cell? ⟨d, 4, none⟩ = some (.bool s.down) :=
  ⟨blk_cell h.blk 0, blk_cell h.blk 1, blk_cell h.blk 2, blk_cell h.blk 3, blk_cell h.blk 4⟩
theorem FSAt.mb_ne {w : World} {base d : Nat} {s : FSm} (h : FSAt w base d s) : s.mb ≠ d := by
  rintro e
  obtain ⟨es, clock, hb, _⟩ := h.map
  rw [e, h.blk] at hb
  cases hb

/-! ### the map -/
theorem keyed9 : Keyed Try.prog 9 := string_keyed Try.underlying9
theorem key_mk {s : ByteArray} (hs : s.size ≤ maxLen) : keyOf Try.prog 9 (.string s) = some (key s) := WideMaps.keyOf_string_mk Try.underlying9 hs

def findF (fl : List FileM) (nm : ByteArray) : Option FileM := fl.find? (fun f => f.nm.data.toList == nm.data.toList)
def insF (f : FileM) : List FileM → List FileM
  | [] => [f]
  | g :: r => if bytesBefore f.nm.data.toList g.nm.data.toList then f :: g :: r else g :: insF f r
def rmF (fl : List FileM) (nm : ByteArray) : List FileM := fl.filter (fun f => !(f.nm.data.toList == nm.data.toList))

theorem datum_at (fl : List FileM) (nm : ByteArray) (z : DataW Unit) : (datum fl).atKey (key nm) z = match findF fl nm with | some f => .lit (.int .u64 f.fb) | none => z := by
  unfold datum DataW.atKey findF
  induction fl with
  | nil => rfl
  | cons f r ih =>
    simp only [List.map_cons, List.find?_cons]
    have e : (FileM.entry f).1.sameKey (key nm) = (f.nm.data.toList == nm.data.toList) := rfl
    rw [e]
    cases hq : (f.nm.data.toList == nm.data.toList)
    · exact ih
    · rfl
theorem datum_del (fl : List FileM) (nm : ByteArray) : (datum fl).del (key nm) = datum (rmF fl nm) := by
  unfold datum DataW.del rmF
  simp only [List.filter_map]
  congr 1
theorem datum_put (fl : List FileM) (f : FileM) : (datum fl).put (key f.nm) (.lit (.int .u64 f.fb)) = datum (insF f (rmF fl f.nm)) := by
  have e : (datum fl).put (key f.nm) (.lit (.int .u64 f.fb)) = .map (DataW.insert f.entry ((rmF fl f.nm).map FileM.entry)) := by
    unfold datum DataW.put rmF
    simp only [List.filter_map]
    rfl
  rw [e]
  unfold datum
  congr 1
  generalize rmF fl f.nm = l
  induction l with
  | nil => rfl
  | cons g r ih =>
    simp only [List.map_cons, DataW.insert, insF]
    have e2 : f.entry.1.before g.entry.1 = bytesBefore f.nm.data.toList g.nm.data.toList := rfl
    rw [e2]
    split
    · simp
    · simp [ih]
theorem datum_size (fl : List FileM) : Maps.size (datum fl) = fl.length := by simp [datum, Maps.size]

theorem zeroP (w : World) : (zeroValue 89).run Try.prog w = .ok (.pointer none) w := by kernel_rfl
theorem Rp_inv {v : Value} {ps : List MemPlace} {o : Option FileM} (h : Rp v = some ((match o with | some f => .lit (.int .u64 f.fb) | none => .nil), ps)) : v = ptr o := by
  unfold Rp at h
  split at h
  · rename_i b
    cases o with
    | none => simp at h
    | some f =>
      simp at h
      simp [ptr, h.1]
  · cases o with
    | none => rfl
    | some f => simp at h
  · cases h
theorem Rp_ptr (f : FileM) : Rp (ptr (some f)) = some (.lit (.int .u64 f.fb), []) := rfl

theorem owm_tight {w : World} {b n : Nat} {fl : List FileM} (h : w.ownsMap Try.prog 9 Rp b n (datum fl)) : w.ownsMap Try.prog 9 Rp b fl.length (datum fl) := by
  obtain ⟨es, clock, hb, F, hs, hD⟩ := h
  refine ⟨es, clock, hb, F, ?_, hD⟩
  have := congrArg Maps.size hD
  rw [datum_size] at this
  simp [Maps.size, length_sorted] at this
  omega

/-- m[name] -/
theorem look {w : World} {b n : Nat} {fl : List FileM} (h : w.ownsMap Try.prog 9 Rp b n (datum fl)) {nm : ByteArray} (hs : nm.size ≤ maxLen) :
    (Instr.lookup 85 (.map (some b)) (.string nm) false).run Try.prog w = .ok (ptr (findF fl nm)) w := by
  obtain ⟨v, ps, hrun, hv⟩ := h.lookup keyed9 Try.underlying85 (zeroP w) (zd := .nil) (zp := []) rfl (key_mk hs)
  rw [hrun]
  rw [datum_at] at hv
  rw [Rp_inv hv]
/-- delete(m, name) -/
theorem drop_ {w : World} {b n : Nat} {fl : List FileM} (h : w.ownsMap Try.prog 9 Rp b n (datum fl)) {nm : ByteArray} (hs : nm.size ≤ maxLen) (ty : TypeId) :
    ∃ w', (Builtin.delete_ #[85, 9] ty #[.map (some b), .string nm]).run Try.prog w = .ok (.tuple #[]) w' ∧ w'.ownsMap Try.prog 9 Rp b (rmF fl nm).length (datum (rmF fl nm)) ∧ Keeps (fun k => k = b) w w' := by
  obtain ⟨w', hrun, ho, ht⟩ := h.drop keyed9 Try.underlying85 (key_mk hs) ty
  rw [datum_del] at ho
  exact ⟨w', hrun, owm_tight ho, (Keeps.of_grown ht.grown).mono (fun k hk => by injection hk)⟩
/-- m[name] = f -/
theorem put_ {w : World} {b n : Nat} {fl : List FileM} (h : w.ownsMap Try.prog 9 Rp b n (datum fl)) (f : FileM) (hs : f.nm.size ≤ maxLen) (hn : n < maxLen) :
    ∃ w', (Instr.mapUpdate 85 (.map (some b)) (.string f.nm) (ptr (some f))).run Try.prog w = .ok () w' ∧ w'.ownsMap Try.prog 9 Rp b (insF f (rmF fl f.nm)).length (datum (insF f (rmF fl f.nm))) ∧ Keeps (fun k => k = b) w w' := by
  obtain ⟨w', hrun, ho, ht⟩ := h.store keyed9 Try.underlying85 hn (key_mk hs) (Rp_ptr f)
  rw [datum_put] at ho
  exact ⟨w', hrun, owm_tight ho, (Keeps.of_grown ht.grown).mono (fun k hk => by injection hk)⟩

end Go.Proofs.Ythjdgiobchiloaa
