/-
  What is proved: the plain law of VfsKeeps (a disk with one file), and what a round finds; no condition.
-/
import Derived.Test.YthjdgiobchiloaaLsm
namespace Go.Proofs.Ythjdgiobchiloaa
open Go.RowKit Go.Proofs.YthjdgiobchiloaaW.PrintWords Go.Maps
set_option linter.unusedVariables false
set_option linter.unusedSimpArgs false

/-- A disk of one file, "f". -/
def kst (xs : List Int) (sf : Nat) (fu : Int) (dn : Bool) : AS := ⟨[⟨⟨#[102]⟩, xs, sf⟩], 100000, fu, dn⟩
theorem kst_create : Vm.create ⟨[], 100000, 0, false⟩ ⟨#[102]⟩ = (kst [] 0 0 false, 0) := rfl
theorem kst_find (xs : List Int) (sf : Nat) (fu : Int) (dn : Bool) : Vm.find (kst xs sf fu dn).fl ⟨#[102]⟩ = some ⟨⟨#[102]⟩, xs, sf⟩ := rfl
theorem kst_step (xs : List Int) (sf : Nat) (fu : Int) (dn : Bool) (g : List AF → List AF) : ∃ fu' dn' r, Vm.step (kst xs sf fu dn) g = (⟨if r = 0 then g (kst xs sf fu dn).fl else (kst xs sf fu dn).fl, 100000, fu', dn'⟩, r) := by
  unfold Vm.step
  split
  · exact ⟨0, true, 70, rfl⟩
  · exact ⟨_, _, 0, rfl⟩
theorem kst_append (xs : List Int) (sf : Nat) (fu : Int) (dn : Bool) (ys : List Int) : ∃ fu' dn' r, Vm.append (kst xs sf fu dn) ⟨#[102]⟩ ys = (kst (if r = 0 then xs ++ ys else xs) sf fu' dn', r) := by
  unfold Vm.append
  split
  · exact ⟨fu, dn, 70, rfl⟩
  · split
    · rename_i h; cases h
    · split
      · exact ⟨fu, dn, 71, rfl⟩
      · obtain ⟨fu', dn', r, h⟩ := kst_step xs sf fu dn (fun fl => Vm.upd fl ⟨#[102]⟩ fun f => { f with bs := f.bs ++ ys })
        refine ⟨fu', dn', r, h.trans ?_⟩
        split <;> rfl
theorem kst_sync (xs : List Int) (sf : Nat) (fu : Int) (dn : Bool) : ∃ fu' dn' r, Vm.sync (kst xs sf fu dn) ⟨#[102]⟩ = (kst xs (if r = 0 then xs.length else sf) fu' dn', r) := by
  unfold Vm.sync
  split
  · exact ⟨fu, dn, 70, rfl⟩
  · split
    · rename_i h; cases h
    · obtain ⟨fu', dn', r, h⟩ := kst_step xs sf fu dn (fun fl => Vm.upd fl ⟨#[102]⟩ fun f => { f with safe := f.bs.length })
      refine ⟨fu', dn', r, h.trans ?_⟩
      split <;> rfl
theorem kst_crash (xs : List Int) (sf : Nat) (fu : Int) (dn : Bool) (k : Int) (hs : sf ≤ xs.length) : ∃ n : Nat, (n : Int) = sf + min (max k 0) ((xs.length : Int) - sf) ∧ Vm.crash (kst xs sf fu dn) [k] = kst (xs.take n) n 0 false := by
  have g1 : 0 ≤ min (max k 0) ((xs.length : Int) - sf) := Int.le_min.2 ⟨Int.le_max_right _ _, by omega⟩
  have g2 : min (max k 0) ((xs.length : Int) - sf) ≤ (xs.length : Int) - sf := Int.min_le_right _ _
  by_cases he : xs.length = sf
  · refine ⟨sf, by generalize min (max k 0) ((xs.length : Int) - sf) = q at *; omega, ?_⟩
    unfold Vm.crash kst
    simp only [Vm.crashL, if_pos he, List.headD_cons]
    rw [← he, List.take_length]
  · refine ⟨sf + (min (max k 0) ((xs.length : Int) - sf)).toNat, by generalize min (max k 0) ((xs.length : Int) - sf) = q at *; omega, ?_⟩
    unfold Vm.crash kst
    simp only [Vm.crashL, if_neg he, List.headD_cons]
theorem kst_read (xs : List Int) (sf : Nat) (fu : Int) : Vm.read (kst xs sf fu false) ⟨#[102]⟩ = (xs, 0) := rfl
theorem kst_used (xs : List Int) (sf : Nat) (fu : Int) (dn : Bool) : Vm.used (kst xs sf fu dn).fl = xs.length := rfl

/-- At the head of a round. -/
structure KeepInv (w : World) (d k : Nat) (A : Option Addr) (c : Nat) (xs : List Int) (sf : Nat) (wr : World) : Prop where
  lr : ∃ fu dn, LR w d (kst xs sf fu dn) xs A c wr
  safe : sf ≤ xs.length
  size : xs.length ≤ 2000 * min k 20
def KeepRel (w : World) (d n kq : Nat) (all safe i : Value) (wr : World) : Prop :=
  ∃ (k : Nat) (A : Option Addr) (c : Nat) (xs : List Int) (sf : Nat), k + kq = n ∧ i = .int .i64 k ∧ all = .slice A xs.length c ∧ safe = .int .i64 sf ∧ KeepInv w d k A c xs sf wr
theorem KeepInv.old {w wr : World} {d k c : Nat} {A : Option Addr} {xs : List Int} {sf : Nat} (h : KeepInv w d k A c xs sf wr) : Below w.heap.size w wr := by
  obtain ⟨fu, dn, h1⟩ := h.lr
  exact h1.ls.old
theorem KeepRel.mk0 {w w3 : World} {d n : Nat} (h : LS w d (kst [] 0 0 false) (fun _ => False) w3) : KeepRel w d n n (.slice (some ⟨w3.heap.size, 0, none⟩) 0 0) (.int .i64 0) (.int .i64 0) (w3.alloc (.cells #[] 5)) := by
  have HO : (w3.alloc (.cells #[] 5)).ownsRow w.heap.size 5 1 (.slice (some ⟨w3.heap.size, 0, none⟩) 0 0) ([] : List Int).length (nums .u8 []) := World.ownsRow_lit w3 #[] 0 h.disk.size (by decide) (by simp)
  have hb : Below w3.heap.size w3 (w3.alloc (.cells #[] 5)) := below_lit w3 _
  refine ⟨0, _, 0, [], 0, by omega, rfl, rfl, rfl, ⟨0, false, ⟨?_, (h.below hb).old⟩, HO⟩, by simp, by simp⟩
  refine h.disk.keep (S := fun _ => False) (Keeps.of_below hb _) (fun _ h => h.elim) (fun b hb => .inr ?_) (fun b hb => own_lt HO b hb)
  injection hb with hb
  have hb : w3.heap.size = b := hb
  omega
theorem KeepInv.skip {w wr : World} {d k c : Nat} {A : Option Addr} {xs : List Int} {sf : Nat} (h : KeepInv w d k A c xs sf wr) {n kq : Nat} (hk : k + 1 + kq = n) : KeepRel w d n kq (.slice A xs.length c) (.int .i64 sf) (.int .i64 (k + 1)) wr :=
  ⟨k + 1, A, c, xs, sf, hk, rfl, rfl, rfl, h.lr, h.safe, by have := h.size; omega⟩
/-- The disk has the one file xs; the law's row is rs. -/
def KMid (w : World) (d : Nat) (xs : List Int) (sf : Nat) (rs : List Int) (A : Option Addr) (c : Nat) (wr : World) : Prop := ∃ fu dn, LR w d (kst xs sf fu dn) rs A c wr
theorem KMid.below {w wr w' : World} {d c sf : Nat} {A : Option Addr} {xs rs : List Int} (h : KMid w d xs sf rs A c wr) (hb : Below wr.heap.size wr w') : KMid w d xs sf rs A c w' := by
  obtain ⟨fu, dn, h⟩ := h
  exact ⟨fu, dn, h.below hb⟩
theorem KMid.old {w wr : World} {d c sf : Nat} {A : Option Addr} {xs rs : List Int} (h : KMid w d xs sf rs A c wr) : Below w.heap.size w wr := by
  obtain ⟨fu, dn, h⟩ := h
  exact h.ls.old
theorem KMid.row {w wr : World} {d c sf : Nat} {A : Option Addr} {xs rs : List Int} (h : KMid w d xs sf rs A c wr) : wr.ownsRow w.heap.size 5 1 (.slice A rs.length c) rs.length (nums .u8 rs) := by
  obtain ⟨fu, dn, h⟩ := h
  exact h.row
theorem keep_fail {w wr : World} {d c sf : Nat} {A : Option Addr} {xs rs : List Int} (h : KMid w d xs sf rs A c wr) (n : Int) (hn : n ≤ 9223372036854775807) :
    Calls Try.prog 15 #[.pointer (some ⟨d, 0, none⟩), .int .i64 n] wr fun e w' => e = .returned (.tuple #[]) ∧ KMid w d xs sf rs A c w' := by
  obtain ⟨fu, dn, h⟩ := h
  refine (fail_disk h.ls.disk n hn).mono ?_
  rintro e w' ⟨rfl, ht⟩
  exact ⟨rfl, _, dn, h.ls' ht⟩
theorem keep_append {w wr : World} {d c sf : Nat} {A : Option Addr} {xs : List Int} (h : KMid w d xs sf xs A c wr) (B : Option Addr) (m cb : Nat) (ys : List Int) (HC : (Kd.int .u8).C wr B m ys) (hl : xs.length + m ≤ 140737488355328) :
    Calls Try.prog 16 #[.pointer (some ⟨d, 0, none⟩), .string ⟨#[102]⟩, .slice B m cb] wr fun e w' => ∃ r, e = .returned (.int .i64 r) ∧ KMid w d (if r = 0 then xs ++ ys else xs) sf xs A c w' := by
  obtain ⟨fu, dn, h⟩ := h
  refine (append_disk h.ls.disk (by decide) B m cb ys HC (by rw [kst_used]; omega)).mono ?_
  obtain ⟨fu', dn', r, e⟩ := kst_append xs sf fu dn ys
  rw [e]
  rintro e w' ⟨rfl, ht⟩
  exact ⟨r, rfl, fu', dn', h.ls' ht⟩
theorem keep_sync {w wr : World} {d c sf : Nat} {A : Option Addr} {xs rs : List Int} (h : KMid w d xs sf rs A c wr) :
    Calls Try.prog 17 #[.pointer (some ⟨d, 0, none⟩), .string ⟨#[102]⟩] wr fun e w' => ∃ r, e = .returned (.int .i64 r) ∧ KMid w d xs (if r = 0 then xs.length else sf) rs A c w' := by
  obtain ⟨fu, dn, h⟩ := h
  refine (sync_disk h.ls.disk (by decide)).mono ?_
  obtain ⟨fu', dn', r, e⟩ := kst_sync xs sf fu dn
  rw [e]
  rintro e w' ⟨rfl, ht⟩
  exact ⟨r, rfl, fu', dn', h.ls' ht⟩
theorem keep_next {w wr : World} {d k c : Nat} {A : Option Addr} {xs : List Int} {sf : Nat} (h : KMid w d xs sf xs A c wr) (hs : sf ≤ xs.length) (hz : xs.length ≤ 2000 * min (k + 1) 20) {n kq : Nat} (hk : k + 1 + kq = n) : KeepRel w d n kq (.slice A xs.length c) (.int .i64 sf) (.int .i64 (k + 1)) wr :=
  ⟨k + 1, A, c, xs, sf, hk, rfl, rfl, rfl, h, hs, hz⟩
theorem C_take {k : IntKind} {w : World} {A : Option Addr} {n : Nat} {xs : List Int} (h : (Kd.int k).C w A n xs) (m : Nat) (hm : m ≤ n) : (Kd.int k).C w A m (xs.take m) := by
  have hr := reads_of_C h
  refine Kd.C_of_reads (d := 0) ⟨by rw [List.length_take]; have := hr.1; omega, Nat.le_trans hm hr.2.1, fun h0 => ?_⟩
  obtain ⟨ad, e, hc⟩ := hr.2.2 (by omega)
  refine ⟨ad, e, fun j hj => ?_⟩
  rw [hc j (by omega), List.getD_eq_getElem?_getD, List.getD_eq_getElem?_getD, List.getElem?_take, if_pos hj]
/-- The end of VfsKeeps: what a loss of power leaves. -/
theorem keep_crash {w wr : World} {d c sf : Nat} {A : Option Addr} {xs : List Int} (h : KMid w d xs sf xs A c wr) (hs : sf ≤ xs.length) (k : Int) :
    Calls Try.prog 18 #[.pointer (some ⟨d, 0, none⟩), .slice (some ⟨wr.heap.size, 0, none⟩) 1 1] (wr.alloc (.cells #[.int .i64 k] 3)) fun e w' => e = .returned (.tuple #[]) ∧
      ∃ n : Nat, (n : Int) = sf + min (max k 0) ((xs.length : Int) - sf) ∧ n ≤ xs.length ∧ LR w d (kst (xs.take n) n 0 false) xs A c w' := by
  obtain ⟨fu, dn, h⟩ := h
  obtain ⟨n, hn, e⟩ := kst_crash xs sf fu dn k hs
  refine (ls_crash_lit h.ls (by show 1 * 16 ≤ 140737488355328; decide) [k] (by simp)).mono ?_
  rw [e]
  rintro e w' ⟨rfl, h1, h2⟩
  refine ⟨rfl, n, hn, ?_, h1, h2.own h.row (fun k hk hn => hn.2 hk)⟩
  have g2 : min (max k 0) ((xs.length : Int) - sf) ≤ (xs.length : Int) - sf := Int.min_le_right _ _
  generalize min (max k 0) ((xs.length : Int) - sf) = q at *
  omega
theorem keep_read {w wr : World} {d c n : Nat} {A : Option Addr} {xs : List Int} (h : LR w d (kst (xs.take n) n 0 false) xs A c wr) (hn : n ≤ xs.length) (hx : xs.length ≤ 140737488355328) :
    Calls Try.prog 19 #[.pointer (some ⟨d, 0, none⟩), .string ⟨#[102]⟩] wr fun e w' => ∃ B cb, e = .returned (.tuple #[.slice B n cb, .int .i64 0]) ∧ n ≤ cb ∧ Below w.heap.size w w' ∧
      (Kd.int .u8).C w' B n (xs.take n) ∧ (Kd.int .u8).C w' A n (xs.take n) ∧ xs.length ≤ c := by
  have hl : (xs.take n).length = n := by rw [List.length_take]; omega
  refine (ls_read h.ls ⟨#[102]⟩ (kst_read _ _ _) (by decide) (by rw [kst_used, hl]; omega)).mono ?_
  rintro e w' ⟨v, rfl, B, cb, rfl, hrow, hb⟩
  rw [hl] at hrow
  rw [hl]
  have h2 := h.below hb
  exact ⟨B, cb, rfl, own_cap hrow, h2.ls.old, C_of_own hrow, C_take (C_of_own h2.row) n hn, own_cap h2.row⟩
/-- Row k of parts. -/
def PartsAt (w : World) (As : Option Addr) (n : Nat) (A : Nat → Option Addr) (L C : Nat → Nat) (Z : Nat → List Int) : Prop :=
  ∀ r, r < n → ∃ ad, As = some ad ∧ w.cell? (ad.add r) = some (.slice (A r) (L r) (C r)) ∧ L r ≤ C r ∧ (Kd.int .u8).C w (A r) (L r) (Z r)
theorem PartsAt.below {w w' : World} {As : Option Addr} {n : Nat} {A : Nat → Option Addr} {L C : Nat → Nat} {Z : Nat → List Int} (h : PartsAt w As n A L C Z) (hb : Below w.heap.size w w') : PartsAt w' As n A L C Z := by
  intro r hr
  obtain ⟨ad, h1, h2, h3, h4⟩ := h r hr
  exact ⟨ad, h1, (Keeps.of_below hb (fun _ => False)).cell (fun h => h) h2, h3, Kd.C_below h4 hb⟩
end Go.Proofs.Ythjdgiobchiloaa
