/-
  What is proved: what each call on a disk comes to, said of the model's disk and of the blocks that stay; of texts up to the model's length, fewer than 2^43 files, at most 2^47 bytes.
-/
import Derived.Test.YthjdgiobchiloaaFs15
namespace Go.Proofs.Ythjdgiobchiloaa
open Go.RowKit Go.Proofs.YthjdgiobchiloaaW.PrintWords Go.Maps
set_option linter.unusedVariables false
set_option linter.unusedSimpArgs false

/-- The blocks from base on that are not to be kept. -/
def Other (base : Nat) (N : Nat → Prop) (k : Nat) : Prop := base ≤ k ∧ ¬ N k
/-- d is the disk m; its blocks lie from base on, and none is in N. -/
structure Disk (w : World) (base d : Nat) (m : AS) (N : Nat → Prop) : Prop where
  ex : ∃ s, FSAt w base d s ∧ s.abs = m ∧ (∀ k, foot d s k → ¬ N k)
  bound : ∀ k, N k → k < w.heap.size
  size : base ≤ w.heap.size

section
variable {w : World} {base d : Nat} {m : AS} {N : Nat → Prop}
theorem Disk.of_to {s : FSm} {m' : AS} {w' : World} (h : FSAt w base d s) (hN : ∀ k, foot d s k → ¬ N k) (hb : ∀ k, N k → k < w.heap.size) (hs : base ≤ w.heap.size) (ht : ToS base d s w m' w') : Disk w' base d m' N ∧ Keeps (Other base N) w w' := by
  obtain ⟨s', h1, h2, h3, h4, h5⟩ := ht
  refine ⟨⟨⟨s', h1, h2, fun k hk hn => ?_⟩, fun k hk => Nat.lt_of_lt_of_le (hb k hk) h4.size, Nat.le_trans hs h4.size⟩, h4.mono (fun k hk => ⟨(h.foot_lt hk).1, hN k hk⟩)⟩
  rcases h5 k hk with hk | hk
  · exact hN k hk hn
  · have := hb k hn; omega
/-- Other memory turns; N may grow by what is new, or by what is no disk's. -/
theorem Disk.keep {w' : World} {S : Nat → Prop} (h : Disk w base d m N) (k : Keeps S w w') (hS : ∀ b, S b → N b) {N' : Nat → Prop} (hN : ∀ b, N' b → N b ∨ w.heap.size ≤ b) (hb : ∀ b, N' b → b < w'.heap.size) : Disk w' base d m N' := by
  obtain ⟨s, h1, h2, h3⟩ := h.ex
  refine ⟨⟨s, h1.step k (fun b hb hs => h3 b hb (hS b hs)), h2, fun b hb hn => ?_⟩, hb, Nat.le_trans h.size k.size⟩
  rcases hN b hn with hn | hn
  · exact h3 b hb hn
  · have := (h1.foot_lt hb).2; omega
theorem Disk.below {w' : World} (h : Disk w base d m N) (hb : Below w.heap.size w w') : Disk w' base d m N :=
  h.keep (S := fun _ => False) (Keeps.of_below hb _) (fun _ h => h.elim) (fun _ h => .inl h) (fun b hn => Nat.lt_of_lt_of_le (h.bound b hn) hb.size)

def DTo (w : World) (base d : Nat) (m' : AS) (N : Nat → Prop) (w' : World) : Prop := Disk w' base d m' N ∧ Keeps (Other base N) w w'

theorem len_abs {s : FSm} (h : s.abs = m) : s.fl.length = m.fl.length := by rw [← h]; show _ = (absL s.fl).length; simp [absL]
theorem used_abs {s : FSm} (h : s.abs = m) : s.used = Vm.used m.fl := by rw [← h]; show (usedL s.fl : Int) = Vm.used (absL s.fl); rw [abs_used]

theorem create_disk (h : Disk w base d m N) {nm : ByteArray} (hs : nm.size ≤ maxLen) (hn : m.fl.length < maxLen) :
    Calls Try.prog 14 #[.pointer (some ⟨d, 0, none⟩), .string nm] w fun e w' => e = .returned (.int .i64 (Vm.create m nm).2) ∧ DTo w base d (Vm.create m nm).1 N w' := by
  obtain ⟨s, h1, h2, h3⟩ := h.ex
  refine (create_calls h1 h.size hs (by rw [len_abs h2]; exact hn)).mono ?_
  rw [h2]
  rintro e w' ⟨rfl, ht⟩
  exact ⟨rfl, Disk.of_to h1 h3 h.bound h.size ht⟩
theorem append_disk (h : Disk w base d m N) {nm : ByteArray} (hs : nm.size ≤ maxLen) (A : Option Addr) (n c : Nat) (ys : List Int) (HC : (Kd.int .u8).C w A n ys) (hl : (Vm.used m.fl : Int) + n ≤ 140737488355328) :
    Calls Try.prog 16 #[.pointer (some ⟨d, 0, none⟩), .string nm, .slice A n c] w fun e w' => e = .returned (.int .i64 (Vm.append m nm ys).2) ∧ DTo w base d (Vm.append m nm ys).1 N w' := by
  obtain ⟨s, h1, h2, h3⟩ := h.ex
  refine (append_calls h1 h.size hs A n c ys HC (by rw [used_abs h2]; exact hl)).mono ?_
  rw [h2]
  rintro e w' ⟨rfl, ht⟩
  exact ⟨rfl, Disk.of_to h1 h3 h.bound h.size ht⟩
theorem sync_disk (h : Disk w base d m N) {nm : ByteArray} (hs : nm.size ≤ maxLen) :
    Calls Try.prog 17 #[.pointer (some ⟨d, 0, none⟩), .string nm] w fun e w' => e = .returned (.int .i64 (Vm.sync m nm).2) ∧ DTo w base d (Vm.sync m nm).1 N w' := by
  obtain ⟨s, h1, h2, h3⟩ := h.ex
  refine (sync_calls h1 hs).mono ?_
  rw [h2]
  rintro e w' ⟨rfl, ht⟩
  exact ⟨rfl, Disk.of_to h1 h3 h.bound h.size ht⟩
theorem rename_disk (h : Disk w base d m N) {a z : ByteArray} (ha : a.size ≤ maxLen) (hz : z.size ≤ maxLen) (hn : m.fl.length < maxLen) :
    Calls Try.prog 24 #[.pointer (some ⟨d, 0, none⟩), .string a, .string z] w fun e w' => e = .returned (.int .i64 (Vm.rename m a z).2) ∧ DTo w base d (Vm.rename m a z).1 N w' := by
  obtain ⟨s, h1, h2, h3⟩ := h.ex
  refine (rename_calls h1 ha hz (by rw [len_abs h2]; exact hn)).mono ?_
  rw [h2]
  rintro e w' ⟨rfl, ht⟩
  exact ⟨rfl, Disk.of_to h1 h3 h.bound h.size ht⟩
theorem cut_disk (h : Disk w base d m N) {nm : ByteArray} (hs : nm.size ≤ maxLen) (n : Int) :
    Calls Try.prog 61 #[.pointer (some ⟨d, 0, none⟩), .string nm, .int .i64 n] w fun e w' => e = .returned (.int .i64 (Vm.cut m nm n).2) ∧ DTo w base d (Vm.cut m nm n).1 N w' := by
  obtain ⟨s, h1, h2, h3⟩ := h.ex
  refine (cut_calls h1 hs n).mono ?_
  rw [h2]
  rintro e w' ⟨rfl, ht⟩
  exact ⟨rfl, Disk.of_to h1 h3 h.bound h.size ht⟩
theorem remove_disk (h : Disk w base d m N) {nm : ByteArray} (hs : nm.size ≤ maxLen) :
    Calls Try.prog 21 #[.pointer (some ⟨d, 0, none⟩), .string nm] w fun e w' => e = .returned (.int .i64 (Vm.remove m nm).2) ∧ DTo w base d (Vm.remove m nm).1 N w' := by
  obtain ⟨s, h1, h2, h3⟩ := h.ex
  refine (remove_calls h1 hs).mono ?_
  rw [h2]
  rintro e w' ⟨rfl, ht⟩
  exact ⟨rfl, Disk.of_to h1 h3 h.bound h.size ht⟩
theorem fail_disk (h : Disk w base d m N) (n : Int) (hn : n ≤ 9223372036854775807) :
    Calls Try.prog 15 #[.pointer (some ⟨d, 0, none⟩), .int .i64 n] w fun e w' => e = .returned (.tuple #[]) ∧ DTo w base d (Vm.fail m n) N w' := by
  obtain ⟨s, h1, h2, h3⟩ := h.ex
  refine (fail_calls h1 n hn).mono ?_
  rintro e w' ⟨rfl, hF, hk⟩
  refine ⟨rfl, Disk.of_to h1 h3 h.bound h.size ⟨_, hF, ?_, rfl, hk.mono (fun k hk => .inl hk), fun k hk => .inl hk⟩⟩
  rw [← h2]; rfl
theorem crash_disk (h : Disk w base d m N) (hn : m.fl.length * 16 ≤ 140737488355328) (A : Option Addr) (n c : Nat) (ks : List Int) (hC : (Kd.int .i64).C w A n ks) (hA : ∀ ad, A = some ad → ad.block < base ∨ N ad.block) (hc : n ≤ c) :
    Calls Try.prog 18 #[.pointer (some ⟨d, 0, none⟩), .slice A n c] w fun e w' => e = .returned (.tuple #[]) ∧ DTo w base d (Vm.crash m ks) N w' := by
  obtain ⟨s, h1, h2, h3⟩ := h.ex
  refine (crash_calls h1 (by rw [len_abs h2]; exact hn) A n c ks ?_ hc).mono ?_
  · intro W hW
    refine C_move hC ?_
    rintro ad rfl ⟨y, hy⟩
    refine hW.block _ (World.block_lt_of_cell? w _ hy) (fun hf => ?_)
    rcases hA ad rfl with hb | hb
    · have := (h1.foot_lt hf).1; omega
    · exact h3 _ hf hb
  · rw [h2]
    rintro e w' ⟨rfl, ht⟩
    exact ⟨rfl, Disk.of_to h1 h3 h.bound h.size ht⟩
theorem read_disk (h : Disk w base d m N) {nm : ByteArray} (hs : nm.size ≤ maxLen) (hm : (Vm.used m.fl : Int) ≤ 140737488355328) :
    Calls Try.prog 19 #[.pointer (some ⟨d, 0, none⟩), .string nm] w fun e w' => ∃ v, e = .returned (.tuple #[v, .int .i64 (Vm.read m nm).2]) ∧ CloneTo w (Vm.read m nm).1 v w' := by
  obtain ⟨s, h1, h2, h3⟩ := h.ex
  refine (read_calls h1 hs (by rw [used_abs h2]; exact hm)).mono ?_
  rw [h2]
  exact fun _ _ h => h
theorem room_disk (h : Disk w base d m N) : Calls Try.prog 25 #[.pointer (some ⟨d, 0, none⟩)] w fun e w' => e = .returned (.int .i64 (m.most - Vm.used m.fl)) ∧ ∃ n, w' = w.drewN n := by
  obtain ⟨s, h1, h2, h3⟩ := h.ex
  refine (room_calls h1).mono ?_
  rw [used_abs h2, ← h2]
  exact fun _ _ h => h
theorem down_disk (h : Disk w base d m N) : Calls Try.prog 22 #[.pointer (some ⟨d, 0, none⟩)] w fun e w' => e = .returned (.bool m.down) ∧ w = w' := by
  obtain ⟨s, h1, h2, h3⟩ := h.ex
  refine (down_calls h1).mono ?_
  rw [← h2]
  exact fun _ _ h => h
def NamesD (w : World) (fl : List AF) (v : Value) (w' : World) : Prop := ∃ A c, v = .slice A fl.length c ∧ w'.ownsRow w.heap.size 9 1 (.slice A fl.length c) fl.length (fl.map (fun f => Value.string f.nm)) ∧ Below w.heap.size w w'
theorem names_disk (h : Disk w base d m N) (hn : m.fl.length * 16 ≤ 140737488355328) : Calls Try.prog 23 #[.pointer (some ⟨d, 0, none⟩)] w fun e w' => ∃ v, e = .returned v ∧ NamesD w m.fl v w' := by
  obtain ⟨s, h1, h2, h3⟩ := h.ex
  refine (names_calls h1 (by rw [len_abs h2]; exact hn)).mono ?_
  rintro e w' ⟨v, rfl, A, c, hv, hr, hb⟩
  refine ⟨v, rfl, A, c, ?_, ?_, hb⟩
  · rw [← len_abs h2]; exact hv
  · rw [← len_abs h2]
    have : m.fl.map (fun f => Value.string f.nm) = s.fl.map (fun f => Value.string f.nm) := by
      rw [← h2]; show (absL s.fl).map _ = _; unfold absL; rw [List.map_map]; rfl
    rw [this]
    exact hr
end
theorem new_disk (w : World) (n : Int) (hn : n ≤ 9223372036854775807) :
    Calls Try.prog 12 #[.int .i64 n] w fun e w' => ∃ d, e = .returned (.pointer (some ⟨d, 0, none⟩)) ∧ Disk w' w.heap.size d ⟨[], max n 0, 0, false⟩ (fun _ => False) ∧ Below w.heap.size w w' := by
  refine (new_calls w n hn).mono ?_
  rintro e w' ⟨d, mb, rfl, hd, hF, hb⟩
  exact ⟨d, rfl, ⟨⟨_, hF, rfl, fun _ _ h => h⟩, fun _ h => h.elim, hb.size⟩, hb⟩
end Go.Proofs.Ythjdgiobchiloaa
