/-
  What is proved: what slices.Clone of bytes and Read of a disk come to; of texts up to the model's length and rows of at most 2^47 bytes.
-/
import Derived.Test.YthjdgiobchiloaaFs10
namespace Go.Proofs.Ythjdgiobchiloaa
open Go.RowKit Go.Proofs.YthjdgiobchiloaaW.PrintWords Go.Maps
set_option linter.unusedVariables false
set_option linter.unusedSimpArgs false

def CloneTo (w : World) (ys : List Int) (v : Value) (w' : World) : Prop := ∃ A c, v = .slice A ys.length c ∧ w'.ownsRow w.heap.size 5 1 (.slice A ys.length c) ys.length (nums .u8 ys) ∧ Below w.heap.size w w'

set_option maxHeartbeats 1000000 in
theorem clone_none (w : World) (c : Nat) : Calls Try.prog 55 #[.slice none 0 c] w fun e w' => e = .returned (.slice none 0 0) ∧ w = w' := by
  have h1 : ∀ (w : World), (binOp .eql 28 (.slice none 0 c) (.slice none 0 0)).run Try.prog w = .ok (.bool true) w := fun w => Lib.run_eql_slice_nil w 28 5 none 0 c 0 0 Try.underlying28
  go_enter Try.func55, Try.ntmps55
  go_wp2
  go_ret; exact ⟨rfl, rfl⟩
theorem C_none {k : IntKind} {w : World} {m : Nat} {ys : List Int} (h : (Kd.int k).C w none m ys) : m = 0 ∧ ys = [] := by
  have h0 : m = 0 := by
    rcases Nat.eq_zero_or_pos m with h0 | h0
    · exact h0
    · obtain ⟨ad, h, _⟩ := h.2.2 h0
      cases h
  subst h0
  exact ⟨rfl, List.eq_nil_of_length_eq_zero h.1⟩
set_option maxHeartbeats 1000000 in
theorem clone_some (w : World) (ad : Addr) (m c : Nat) (ys : List Int) (HC : (Kd.int .u8).C w (some ad) m ys) (hm : m ≤ 140737488355328) : Calls Try.prog 55 #[.slice (some ad) m c] w fun e w' => ∃ v, e = .returned v ∧ CloneTo w ys v w' := by
  have h1 : ∀ (w : World), (binOp .eql 28 (.slice (some ad) m c) (.slice none 0 0)).run Try.prog w = .ok (.bool false) w := fun w => Lib.run_eql_slice_nil w 28 5 (some ad) m c 0 0 Try.underlying28
  have HO : (w.alloc (.cells #[] 5)).ownsRow w.heap.size 5 1 (.slice (some ⟨w.heap.size, 0, none⟩) 0 0) ([] : List Int).length (nums .u8 []) := World.ownsRow_lit w #[] 0 (Nat.le_refl _) (by decide) (by simp)
  have hB : Below w.heap.size w (w.alloc (.cells #[] 5)) := (Below.refl _ _).alloc (Nat.le_refl _) _
  have HC' := Kd.C_below HC hB
  have hl : (([] : List Int).length + m) * 1 ≤ 140737488355328 := by simp; omega
  have HHO := Aside0.mk HO
  have HHC := Aside0.mk HC'
  have Hfin : Aside0 (∀ A1 c1 n w1, Aside0 (n = ([] ++ ys).length) → w1.ownsRow w.heap.size 5 1 (.slice A1 n c1) n (nums .u8 ([] ++ ys)) → Keeps (fun k => (Value.slice (some ⟨w.heap.size, 0, none⟩) 0 0).ownBlock = some k) (w.alloc (.cells #[] 5)) w1 → CloneTo w ys (.slice A1 n c1) w1) := by
    refine ⟨fun A1 c1 n w1 ⟨hn⟩ ho hk => ?_⟩
    simp only [List.nil_append] at hn ho
    subst hn
    refine ⟨A1, c1, rfl, ho, ?_⟩
    refine ((Keeps.of_below hB (fun k => k = w.heap.size)).trans (hk.mono ?_)).below (fun k hk => by omega) (Nat.le_refl _)
    intro k hk
    injection hk with hk
    exact hk.symm
  clear HO HC' HC hB hm
  go_enter Try.func55, Try.ntmps55
  go_wp2_with (at_builtin; refine list_app w.heap.size rfl (.tmp 5) (.tmp 6) 28 5 .u8 1 rfl Try.underlying28 cut_info (by decide) (.slice (some ⟨w.heap.size, 0, none⟩) 0 0) [] ys (some ad) m c rfl rfl HHO.out HHC.out ?hb hl ?_; (case hb => simp); intro A1 c1 n w1 hn1 ho1 hk1 hl1; have hres := Hfin.out A1 c1 n w1 hn1 ho1 hk1; clear hn1 ho1 hk1 hl1)
  go_ret; exact ⟨_, rfl, hres⟩
theorem clone_calls (w : World) (A : Option Addr) (m c : Nat) (ys : List Int) (HC : (Kd.int .u8).C w A m ys) (hm : m ≤ 140737488355328) : Calls Try.prog 55 #[.slice A m c] w fun e w' => ∃ v, e = .returned v ∧ CloneTo w ys v w' := by
  cases A with
  | some ad => exact clone_some w ad m c ys HC hm
  | none =>
    obtain ⟨rfl, rfl⟩ := C_none HC
    refine (clone_none w c).mono ?_
    rintro e w' ⟨rfl, rfl⟩
    exact ⟨_, rfl, none, 0, rfl, own_nil _ _ _ _, Below.refl _ _⟩

section
variable {w : World} {base d : Nat} {s : FSm}
/-- Read: the bytes are new memory; the disk stays. -/
def ReadTo (w : World) (r : List Int × Int) (e : Ending) (w' : World) : Prop := ∃ v, e = .returned (.tuple #[v, .int .i64 r.2]) ∧ CloneTo w r.1 v w'
set_option maxRecDepth 100000 in
set_option maxHeartbeats 1000000 in
theorem read_calls (h : FSAt w base d s) {nm : ByteArray} (hs : nm.size ≤ maxLen) (hm : s.used ≤ 140737488355328) :
    Calls Try.prog 19 #[.pointer (some ⟨d, 0, none⟩), .string nm] w (ReadTo w (Vm.read s.abs nm)) := by
  refine Calls.mono (R := fun e w' => ∃ v, e = .returned (.tuple #[v, .int .i64 (Vm.read s.abs nm).2]) ∧ CloneTo w (Vm.read s.abs nm).1 v w') ?_ (fun _ _ h => h)
  have hnil : CloneTo w [] (.slice none 0 0) w := ⟨none, 0, rfl, own_nil _ _ _ _, Below.refl _ _⟩
  by_cases hd : s.down = true
  · have e : Vm.read s.abs nm = ([], 70) := by unfold Vm.read; rw [if_pos (by exact hd)]
    rw [e]
    have HF := Aside0.mk (find_down h nm hd)
    clear hd e hs hm
    clear h
    go_enter Try.func19, Try.ntmps19
    go_wp2_with (go_at_call 52; refine HF.out.mono ?_; rintro e w1 ⟨rfl, rfl⟩)
    go_ret2; exact ⟨_, rfl, hnil⟩
  · have hd : s.down = false := by simpa using hd
    cases hf : findF s.fl nm with
    | none =>
      have e : Vm.read s.abs nm = ([], 4) := by
        unfold Vm.read
        rw [if_neg (ndown (by exact hd)), show s.abs.fl = absL s.fl from rfl, abs_find, hf]
        rfl
      rw [e]
      have HF := Aside0.mk (find_none h hs hd hf)
      clear hd e hs hf hm
      clear h
      go_enter Try.func19, Try.ntmps19
      go_wp2_with (go_at_call 52; refine HF.out.mono ?_; rintro e w1 ⟨rfl, rfl⟩)
      go_ret2; exact ⟨_, rfl, hnil⟩
    | some f =>
      obtain ⟨hfm, _⟩ := find_mem hf
      have hF := h.files f hfm
      obtain ⟨A, c, hv⟩ := own_slice hF.2.2.1
      have ho := hF.2.2.1
      rw [hv] at ho
      have e : Vm.read s.abs nm = (f.bs, 0) := by
        unfold Vm.read
        rw [if_neg (ndown (by exact hd)), show s.abs.fl = absL s.fl from rfl, abs_find, hf]
        rfl
      rw [e]
      have HF := Aside0.mk (find_some h hs hd hf)
      have hle : f.bs.length ≤ 140737488355328 := by have := rm_some h.names hf; unfold FSm.used at hm; omega
      have HK := Aside0.mk (clone_calls w A f.bs.length c f.bs (C_of_own ho) hle)
      have e0 : w.cell? ⟨f.fb, 0, none⟩ = some (.slice A f.bs.length c) := by rw [blk_cell hF.1 0, ← hv]; rfl
      clear hd e hs hf hm ho hv hF hfm hle hnil
      clear h
      go_enter Try.func19, Try.ntmps19
      go_wp2_with (first | (go_at_call 52; refine HF.out.mono ?_; rintro e w1 ⟨rfl, rfl⟩) | (go_at_call 55; refine HK.out.mono ?_; rintro e w1 ⟨v, rfl, hres⟩; have hres' := Aside0.mk hres; clear hres))
      go_ret2; exact ⟨_, rfl, hres'.out⟩
end
end Go.Proofs.Ythjdgiobchiloaa
