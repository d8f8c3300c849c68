/-
  What is proved: a file's first bytes are kept (the memory), steps one behind the other, and the model's loss of power file by file; no condition.
-/
import Derived.Test.YthjdgiobchiloaaFs12
namespace Go.Proofs.Ythjdgiobchiloaa
open Go.RowKit Go.Proofs.YthjdgiobchiloaaW.PrintWords Go.Maps
set_option linter.unusedVariables false
set_option linter.unusedSimpArgs false

theorem ToS.trans {base d : Nat} {s s1 : FSm} {w w1 w2 : World} {m : AS} (h1 : Keeps (foot d s) w w1) (hf : ∀ k, foot d s1 k → foot d s k ∨ w.heap.size ≤ k) (hm : s1.mb = s.mb) (h : ToS base d s1 w1 m w2) : ToS base d s w m w2 := by
  obtain ⟨s', g1, g2, g3, g4, g5⟩ := h
  refine ⟨s', g1, g2, g3.trans hm, h1.then_ g4 (fun k hk => .inl hk) hf, fun k hk => ?_⟩
  rcases g5 k hk with hk | hk
  · exact hf k hk
  · exact .inr (Nat.le_trans h1.size hk)

section
variable {w : World} {base d : Nat} {s : FSm}
/-- A file's first N bytes are kept, S of them safe. -/
theorem trunc_at (h : FSAt w base d s) {nm : ByteArray} {f : FileM} (hf : findF s.fl nm = some f) {A : Option Addr} {c : Nat} (hv : f.v = .slice A f.bs.length c) (N S : Nat) (hN : N ≤ f.bs.length) (hS : S ≤ N) :
    ToS base d s w { s.abs with fl := Vm.upd s.abs.fl nm fun f => { f with bs := f.bs.take N, safe := S } }
      (((w.setCell ⟨d, 2, none⟩ (.int .i64 (s.used - (f.bs.length - N)))).setCell ⟨f.fb, 0, none⟩ (.slice A N c)).setCell ⟨f.fb, 1, none⟩ (.int .i64 S)) := by
  obtain ⟨hm, hn⟩ := find_mem hf
  have hF := h.files f hm
  have ho := hF.2.2.1
  rw [hv] at ho
  have qd := h.fb_ne hm
  have hu := used_upd h.names hf (fun x => { x with v := .slice A N c, bs := f.bs.take N, safe := S })
  have hg : usedL (updF s.fl nm (fun x => { x with v := .slice A N c, bs := f.bs.take N, safe := S })) + f.bs.length = usedL s.fl + N := by simp only [List.length_take] at hu; omega
  have hle : f.bs.length ≤ usedL s.fl := by have := rm_some h.names hf; omega
  have r1 := h.room
  have ru : s.used = usedL s.fl := rfl
  refine upd_at h hf (fun x => { x with v := .slice A N c, bs := f.bs.take N, safe := S }) (fun _ => rfl) (fun _ => rfl) ?_ ?_ ?_ ?_ ?_ _ rfl
  · refine Keeps.trans (b := (w.setCell ⟨d, 2, none⟩ (.int .i64 (s.used - (f.bs.length - N)))).setCell ⟨f.fb, 0, none⟩ (.slice A N c)) (Keeps.trans (b := w.setCell ⟨d, 2, none⟩ (.int .i64 (s.used - (f.bs.length - N)))) ?_ ?_) ?_
    · exact (Keeps.set _ d 2 _).mono (fun k hk => .inl hk)
    · exact (Keeps.set _ f.fb 0 _).mono (fun k hk => .inr (.inl hk))
    · exact (Keeps.set _ f.fb 1 _).mono (fun k hk => .inr (.inl hk))
  · rw [blk_far (blk_far (blk_set h.blk 2 _) (p := ⟨f.fb, 0, none⟩) (fun e => qd e.symm) _) (p := ⟨f.fb, 1, none⟩) (fun e => qd e.symm) _]
    have : s.used - ((f.bs.length : Int) - N) = usedL (updF s.fl nm (fun x => { x with v := .slice A N c, bs := f.bs.take N, safe := S })) := by omega
    rw [this]
    simp
  · refine ⟨?_, hF.2.1, ?_, ?_, hF.2.2.2.2⟩
    · rw [blk_set (blk_set (blk_far hF.1 (p := ⟨d, 2, none⟩) qd _) 0 _) 1 _]
      simp
    · have ho2 := own_take ho hN
      show World.ownsRow _ base 5 1 (.slice A N c) (f.bs.take N).length (nums .u8 (f.bs.take N))
      have e1 : (f.bs.take N).length = N := by rw [List.length_take]; omega
      have e2 : nums .u8 (f.bs.take N) = (nums .u8 f.bs).take (N * 1) := by rw [Nat.mul_one]; simp [nums, List.map_take]
      rw [e1, e2]
      refine own_setCell (own_setCell (own_setCell ho2 ?_ _) ?_ _) ?_ _
      · intro e; exact h.own_d hm (k := d) (by rw [hv, own_len A _ N c]; exact e.symm) rfl
      · intro e; exact h.own_fb hm hm (k := f.fb) (by rw [hv, own_len A _ N c]; exact e.symm) rfl
      · intro e; exact h.own_fb hm hm (k := f.fb) (by rw [hv, own_len A _ N c]; exact e.symm) rfl
    · show S ≤ (f.bs.take N).length
      rw [List.length_take]; omega
  · intro k hk
    refine .inl ?_
    rw [hv, own_len A _ N c]
    exact hk
  · omega
end

namespace Vm
theorem same_refl (a : ByteArray) : same a a = true := by simp [same]
theorem upd_mid {pre r : List AF} {f : AF} (g : AF → AF) (h : ∀ x, x ∈ pre ∨ x ∈ r → same x.nm f.nm = false) : upd (pre ++ f :: r) f.nm g = pre ++ g f :: r := by
  unfold upd
  have e : ∀ l : List AF, (∀ x ∈ l, same x.nm f.nm = false) → l.map (fun x => if same x.nm f.nm then g x else x) = l := by
    intro l hl
    rw [List.map_congr_left (g := id)]
    · simp
    · intro x hx; simp [hl x hx]
  rw [List.map_append, List.map_cons, e pre (fun x hx => h x (.inl hx)), e r (fun x hx => h x (.inr hx)), same_refl]
  simp
theorem find_mid {pre r : List AF} {f : AF} (h : ∀ x, x ∈ pre → same x.nm f.nm = false) : find (pre ++ f :: r) f.nm = some f := by
  unfold find
  rw [List.find?_append]
  have : pre.find? (fun x => same x.nm f.nm) = none := by
    rw [List.find?_eq_none]
    intro x hx
    simp [h x hx]
  rw [this, List.find?_cons, same_refl]
  rfl
/-- What a file is behind a loss of power that keeps k. -/
def torn (f : AF) (k : Int) : AF :=
  let n := (min (max k 0) ((f.bs.length : Int) - f.safe)).toNat
  { f with bs := f.bs.take (f.safe + n), safe := f.safe + n }
theorem crashL_eq {f : AF} {r : List AF} {ks : List Int} (h : f.bs.length = f.safe) : crashL (f :: r) ks = f :: crashL r ks := by
  rw [crashL, if_pos h]
theorem crashL_ne {f : AF} {r : List AF} {ks : List Int} (h : f.bs.length ≠ f.safe) : crashL (f :: r) ks = torn f (ks.headD 0) :: crashL r ks.tail := by
  rw [crashL, if_neg h]; rfl
end Vm
end Go.Proofs.Ythjdgiobchiloaa
