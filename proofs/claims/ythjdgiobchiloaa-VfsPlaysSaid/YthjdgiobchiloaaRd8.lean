/-
  What is proved: Do of colloquyref07 is the model's operation, of kinds 1 to 6 on files by rising names, each with its safe bytes; of fewer than 2^40 files, at most 2^47 bytes.
-/
import Derived.Test.YthjdgiobchiloaaRd4
import Derived.Test.YthjdgiobchiloaaRd5
import Derived.Test.YthjdgiobchiloaaRd7
namespace Go.Proofs.Ythjdgiobchiloaa
open Go.RowKit Go.Proofs.YthjdgiobchiloaaW.PrintWords
set_option linter.unusedVariables false
set_option linter.unusedSimpArgs false

theorem same_eq {a b : ByteArray} (h : Vm.same a b = true) : a = b := ByteArray.ext (Array.toList_inj.1 (same_data.1 h))
theorem find_nm {l : List AF} {nm : ByteArray} {f : AF} (h : Vm.find l nm = some f) : f.nm = nm := same_eq (by have := List.find?_some h; exact this)
section
variable {fl : List AF} {most fuse : Int} {g : List AF → List AF}
theorem step_off (hf : fuse = 1) : Vm.step ⟨fl, most, fuse, false⟩ g = (⟨fl, most, 0, true⟩, 70) := by subst hf; rfl
theorem step_zero (hf : fuse = 0) : Vm.step ⟨fl, most, fuse, false⟩ g = (⟨g fl, most, 0, false⟩, 0) := by subst hf; rfl
theorem step_dec (hf : 1 < fuse) : Vm.step ⟨fl, most, fuse, false⟩ g = (⟨g fl, most, fuse - 1, false⟩, 0) := by
  unfold Vm.step
  rw [if_neg (show ¬ fuse = 1 from by omega)]
  simp only
  rw [if_pos (by omega)]
end
theorem fuse_3 {fuse : Int} (h : 0 ≤ fuse) : fuse = 1 ∨ fuse = 0 ∨ 1 < fuse := by omega

section
variable {w : World} {ok : Nat → Prop} {m : AS} {v : Value} {o : OpM} {B : Option Addr} {cb : Nat}
theorem ref_do (h : DoIn w ok m v o B cb) (hk : 1 ≤ o.kind ∧ o.kind ≤ 6) : Calls Try.prog 28 #[fsV m v, rop o B cb] w (DoTo w ok (Vm.does m o).1 (Vm.does m o).2) := by
  by_cases hd : m.down = true
  · rw [does_down hd]
    exact do_down h hd
  have hd' : m.down = false := by simpa using hd
  have hfi := idx_find m.fl o.a 0
  have hF0 := h.hf0
  have hS := h.hs
  by_cases k1 : o.kind = 1
  · cases hn : Vm.named o.a with
    | false => rw [does_name1 hd' o k1 hn]; exact do_name1 h hd' k1 hn
    | true =>
      rcases hfi with ⟨h1, h2⟩ | ⟨j, f, h1, h2, h3⟩
      · rw [does_create hd' o k1 hn h1]
        obtain ⟨kind, a, z, nn, b, keep⟩ := o
        obtain ⟨fl, most, fuse, down⟩ := m
        simp only at *
        subst k1 hd'
        rcases fuse_3 hF0 with e | e | e
        · rw [step_off e]; subst e; exact do_create_off h h2 hn
        · rw [step_zero e]; subst e; exact do_create_zero h h2 hn
        · rw [step_dec e]; exact do_create_dec h h2 hn e
      · rw [does_twice hd' o k1 hn h2]
        exact do_twice h hd' k1 hn (by rw [h3, Nat.zero_add])
  by_cases k4 : o.kind = 4
  · cases hn : Vm.named o.z with
    | false => rw [does_name4 hd' o k4 hn]; exact do_name4 h hd' k4 hn
    | true =>
      rcases hfi with ⟨h1, h2⟩ | ⟨j, f, h1, h2, h3⟩
      · rw [does_none hd' o k1 (fun _ => hn) h1]; exact do_none4 h hd' k4 hn h2
      · rw [does_rename hd' o hS k4 hn h2]
        rw [Nat.zero_add] at h3
        obtain ⟨kind, a, z, nn, b, keep⟩ := o
        obtain ⟨fl, most, fuse, down⟩ := m
        simp only at *
        subst k4 hd'
        rcases fuse_3 hF0 with e | e | e
        · rw [step_off e]; subst e; exact do_rename_off h h1 h3 hn
        · rw [step_zero e]; subst e; exact do_rename_zero h h1 h3 hn
        · rw [step_dec e]; exact do_rename_dec h h1 h3 hn e
  rcases hfi with ⟨h1, h2⟩ | ⟨j, f, h1, h2, h3⟩
  · rw [does_none hd' o k1 (fun e => absurd e k4) h1]; exact do_none h hd' k1 k4 h2
  rw [Nat.zero_add] at h3
  have hnm := find_nm h2
  by_cases k2 : o.kind = 2
  · by_cases hr : m.most - (Vm.used m.fl : Int) < o.b.length
    · rw [does_full hd' o k2 h2 hr]; exact do_full h hd' k2 h1 h3 hr
    · rw [does_app hd' o k2 h2 hr]
      have hu := upd_ins hS h2 (fun f => { f with bs := f.bs ++ o.b }) rfl
      obtain ⟨kind, a, z, nn, b, keep⟩ := o
      obtain ⟨fl, most, fuse, down⟩ := m
      simp only at *
      subst k2 hd'
      rcases fuse_3 hF0 with e | e | e
      · rw [step_off e]; subst e; exact do_append_off h h1 h3 hr
      · rw [step_zero e, hu, ← hnm]; subst e; rw [← hnm] at h h3; exact do_append_zero h h1 h3 hr
      · rw [step_dec e, hu, ← hnm]; rw [← hnm] at h h3; exact do_append_dec h h1 h3 hr e
  by_cases k3 : o.kind = 3
  · rw [does_sync hd' o k3 h2]
    have hu := upd_ins hS h2 (fun f => { f with safe := f.bs.length }) rfl
    obtain ⟨kind, a, z, nn, b, keep⟩ := o
    obtain ⟨fl, most, fuse, down⟩ := m
    simp only at *
    subst k3 hd'
    rcases fuse_3 hF0 with e | e | e
    · rw [step_off e]; subst e; exact do_sync_off h h1 h3
    · rw [step_zero e, hu, ← hnm]; subst e; rw [← hnm] at h h3; exact do_sync_zero h h1 h3
    · rw [step_dec e, hu, ← hnm]; rw [← hnm] at h h3; exact do_sync_dec h h1 h3 e
  by_cases k5 : o.kind = 5
  · by_cases hr : o.n < 0 ∨ (f.bs.length : Int) < o.n
    · rw [does_cut1 hd' o k5 h2 hr]; exact do_cut1 h hd' k5 h1 h3 hr
    · rw [does_cut hd' o k5 h2 hr]
      have hu := upd_ins hS h2 (fun f => { f with bs := f.bs.take o.n.toNat, safe := min f.safe o.n.toNat }) rfl
      obtain ⟨kind, a, z, nn, b, keep⟩ := o
      obtain ⟨fl, most, fuse, down⟩ := m
      simp only at *
      subst k5 hd'
      obtain ⟨N, rfl⟩ := Int.eq_ofNat_of_zero_le (show 0 ≤ nn by omega)
      rw [Int.toNat_natCast] at *
      have hN : N ≤ f.bs.length := by omega
      rcases fuse_3 hF0 with e | e | e
      · rw [step_off e]; subst e; exact do_cut_off h h1 h3 hN
      · rw [step_zero e, hu, ← hnm]; subst e; rw [← hnm] at h h3
        by_cases hs : N < f.safe
        · rw [Nat.min_eq_right (by omega)]; exact do_cutl_zero h h1 h3 hN hs
        · rw [Nat.min_eq_left (by omega)]; exact do_cutg_zero h h1 h3 hN (by omega)
      · rw [step_dec e, hu, ← hnm]; rw [← hnm] at h h3
        by_cases hs : N < f.safe
        · rw [Nat.min_eq_right (by omega)]; exact do_cutl_dec h h1 h3 hN hs e
        · rw [Nat.min_eq_left (by omega)]; exact do_cutg_dec h h1 h3 hN (by omega) e
  have k6 : o.kind = 6 := by omega
  rw [does_remove hd' o k6 h2]
  obtain ⟨kind, a, z, nn, b, keep⟩ := o
  obtain ⟨fl, most, fuse, down⟩ := m
  simp only at *
  subst k6 hd'
  rcases fuse_3 hF0 with e | e | e
  · rw [step_off e]; subst e; exact do_remove_off h h1 h3
  · rw [step_zero e]; subst e; exact do_remove_zero h h1 h3
  · rw [step_dec e]; exact do_remove_dec h h1 h3 e
end
end Go.Proofs.Ythjdgiobchiloaa
