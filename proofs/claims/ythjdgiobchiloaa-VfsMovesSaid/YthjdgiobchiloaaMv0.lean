/-
  What is proved: the plain law of VfsMoves (the disk call by call); no condition.
-/
import Derived.Test.YthjdgiobchiloaaKp0
namespace Go.Proofs.Ythjdgiobchiloaa
open Go.RowKit Go.Proofs.YthjdgiobchiloaaW.PrintWords Go.Maps
set_option linter.unusedVariables false
set_option linter.unusedSimpArgs false

def nA : ByteArray := ⟨#[97]⟩
def nB : ByteArray := ⟨#[98]⟩
def nC : ByteArray := ⟨#[99]⟩
/-- Two files; one file. -/
def mv2 (xs : List Int) (sx : Nat) (ys : List Int) : AS := ⟨[⟨⟨#[97]⟩, xs, sx⟩, ⟨⟨#[98]⟩, ys, 0⟩], 1048576, 0, false⟩
def mv1 (xs : List Int) (sx : Nat) : AS := ⟨[⟨⟨#[98]⟩, xs, sx⟩], 1048576, 0, false⟩
theorem app_ok (m : AS) (nm : ByteArray) (ys : List Int) (hd : m.down = false) (hf : (Vm.find m.fl nm).isNone = false) (hr : ¬ m.most - Vm.used m.fl < ys.length) (hu : m.fuse = 0) :
    Vm.append m nm ys = ({ m with fl := Vm.upd m.fl nm fun f => { f with bs := f.bs ++ ys } }, 0) := by
  unfold Vm.append
  rw [if_neg (by rw [hd]; decide), if_neg (by rw [hf]; decide), if_neg hr]
  unfold Vm.step
  rw [if_neg (by rw [hu]; decide)]
  cases m
  simp only at hu
  subst hu
  rfl
theorem mv_c1 : Vm.create ⟨[], 1048576, 0, false⟩ ⟨#[97]⟩ = (⟨[⟨⟨#[97]⟩, [], 0⟩], 1048576, 0, false⟩, 0) := rfl
theorem mv_c2 : Vm.create ⟨[⟨⟨#[97]⟩, [], 0⟩], 1048576, 0, false⟩ ⟨#[98]⟩ = (mv2 [] 0 [], 0) := rfl
theorem mv_used (xs ys : List Int) (sx : Nat) : Vm.used (mv2 xs sx ys).fl = xs.length + ys.length := rfl
theorem mv_used1 (xs : List Int) (sx : Nat) : Vm.used (mv1 xs sx).fl = xs.length := rfl
theorem mv_a1 (xs : List Int) (h : xs.length ≤ 5000) : Vm.append (mv2 [] 0 []) ⟨#[97]⟩ xs = (mv2 xs 0 [], 0) :=
  (app_ok _ _ _ rfl rfl (by rw [mv_used]; show ¬ ((1048576 : Int) - _ < _); simp; omega) rfl).trans rfl
theorem mv_a2 (xs ys : List Int) (h : xs.length + ys.length ≤ 5000) : Vm.append (mv2 xs 0 []) ⟨#[98]⟩ ys = (mv2 xs 0 ys, 0) :=
  (app_ok _ _ _ rfl rfl (by rw [mv_used]; show ¬ ((1048576 : Int) - _ < _); simp; omega) rfl).trans rfl
theorem mv_s (xs ys : List Int) : Vm.sync (mv2 xs 0 ys) ⟨#[97]⟩ = (mv2 xs xs.length ys, 0) := rfl
theorem mv_a3 (xs ys zs : List Int) (h : xs.length + ys.length + zs.length ≤ 5000) : Vm.append (mv2 xs xs.length ys) ⟨#[97]⟩ zs = (mv2 (xs ++ zs) xs.length ys, 0) :=
  (app_ok _ _ _ rfl rfl (by rw [mv_used]; show ¬ ((1048576 : Int) - _ < _); omega) rfl).trans rfl
theorem mv_r1 (xs ys : List Int) (sx : Nat) : Vm.rename (mv2 xs sx ys) ⟨#[97]⟩ ⟨#[97]⟩ = (mv2 xs sx ys, 0) := rfl
theorem mv_r2 (xs ys : List Int) (sx : Nat) : Vm.rename (mv2 xs sx ys) ⟨#[97]⟩ ⟨#[98]⟩ = (mv1 xs sx, 0) := rfl
theorem mv_r3 (xs : List Int) (sx : Nat) : Vm.rename (mv1 xs sx) ⟨#[97]⟩ ⟨#[99]⟩ = (mv1 xs sx, 4) := rfl
theorem mv_read (xs : List Int) (sx : Nat) : Vm.read (mv1 xs sx) ⟨#[98]⟩ = (xs, 0) := rfl
theorem mv_crash (xs : List Int) (sf : Nat) (k : Int) (hs : sf ≤ xs.length) : ∃ n : Nat, (n : Int) = sf + min (max k 0) ((xs.length : Int) - sf) ∧ n ≤ xs.length ∧ Vm.crash (mv1 xs sf) [k] = mv1 (xs.take n) n := by
  have g1 : 0 ≤ min (max k 0) ((xs.length : Int) - sf) := Int.le_min.2 ⟨Int.le_max_right _ _, by omega⟩
  have g2 : min (max k 0) ((xs.length : Int) - sf) ≤ (xs.length : Int) - sf := Int.min_le_right _ _
  by_cases he : xs.length = sf
  · refine ⟨sf, by generalize min (max k 0) ((xs.length : Int) - sf) = q at *; omega, by omega, ?_⟩
    unfold Vm.crash mv1
    simp only [Vm.crashL, if_pos he, List.headD_cons]
    rw [← he, List.take_length]
  · refine ⟨sf + (min (max k 0) ((xs.length : Int) - sf)).toNat, by generalize min (max k 0) ((xs.length : Int) - sf) = q at *; omega, by generalize min (max k 0) ((xs.length : Int) - sf) = q at *; omega, ?_⟩
    unfold Vm.crash mv1
    simp only [Vm.crashL, if_neg he, List.headD_cons]
theorem mv_row0 {w w3 : World} {d : Nat} {m : AS} (h : LS w d m (fun _ => False) w3) : LR w d m [] (some ⟨w3.heap.size, 0, none⟩) 0 (w3.alloc (.cells #[] 5)) := by
  have HO : (w3.alloc (.cells #[] 5)).ownsRow w.heap.size 5 1 (.slice (some ⟨w3.heap.size, 0, none⟩) 0 0) ([] : List Int).length (nums .u8 []) := World.ownsRow_lit w3 #[] 0 h.disk.size (by decide) (by simp)
  have hb : Below w3.heap.size w3 (w3.alloc (.cells #[] 5)) := below_lit w3 _
  refine ⟨⟨?_, (h.below hb).old⟩, HO⟩
  refine h.disk.keep (S := fun _ => False) (Keeps.of_below hb _) (fun _ h => h.elim) (fun b hb => .inr ?_) (fun b hb => own_lt HO b hb)
  injection hb with hb
  have hb : w3.heap.size = b := hb
  omega
theorem mv_grow {w w5 w1 : World} {d : Nat} {m : AS} {xs ys zs : List Int} {A A1 : Option Addr} {c c1 n : Nat} (h : LR w d m xs A c w5) (hz : ys = zs) (hn : Aside0 (n = ys.length)) (ho : w1.ownsRow w.heap.size 5 1 (.slice A1 n c1) n (nums .u8 ys)) (hk : Keeps (fun k => (Value.slice A xs.length c).ownBlock = some k) w5 w1)
    (hl : ∀ b, (Value.slice A1 n c1).ownBlock = some b → (Value.slice A xs.length c).ownBlock = some b ∨ w5.heap.size ≤ b) : n = zs.length ∧ LR w d m zs A1 c1 w1 := by
  subst hz
  obtain ⟨rfl⟩ := hn
  exact ⟨rfl, h.grow ho hk hl⟩
theorem mv_grow1 {w w3 w1 : World} {d : Nat} {m : AS} {xs : List Int} {A1 : Option Addr} {c1 n : Nat} (h : LS w d m (fun _ => False) w3) (hn : Aside0 (n = (([] : List Int) ++ xs).length)) (ho : w1.ownsRow w.heap.size 5 1 (.slice A1 n c1) n (nums .u8 (([] : List Int) ++ xs))) (hk : Keeps (fun k => (Value.slice (some ⟨w3.heap.size, 0, none⟩) 0 0).ownBlock = some k) (w3.alloc (.cells #[] 5)) w1)
    (hl : ∀ b, (Value.slice A1 n c1).ownBlock = some b → (Value.slice (some ⟨w3.heap.size, 0, none⟩) 0 0).ownBlock = some b ∨ (w3.alloc (.cells #[] 5)).heap.size ≤ b) : n = xs.length ∧ LR w d m xs A1 c1 w1 :=
  mv_grow (mv_row0 h) (List.nil_append xs) hn ho hk hl
/-- The law's two rows beside its disk. -/
structure Both (w : World) (d : Nat) (m : AS) (ws : List Int) (A : Option Addr) (ca : Nat) (B : Option Addr) (cb : Nat) (wr : World) : Prop where
  ls : LS w d m (fun k => Rown A ws.length ca k ∨ Rown B ws.length cb k) wr
  ra : wr.ownsRow w.heap.size 5 1 (.slice A ws.length ca) ws.length (nums .u8 ws)
  rb : wr.ownsRow w.heap.size 5 1 (.slice B ws.length cb) ws.length (nums .u8 ws)
theorem mv_read1 {w wr : World} {d : Nat} {ws : List Int} {sx : Nat} {A : Option Addr} {ca : Nat} (h : LR w d (mv1 ws sx) ws A ca wr) (hx : ws.length ≤ 140737488355328) :
    Calls Try.prog 19 #[.pointer (some ⟨d, 0, none⟩), .string ⟨#[98]⟩] wr fun e w' => ∃ B cb, e = .returned (.tuple #[.slice B ws.length cb, .int .i64 0]) ∧ Both w d (mv1 ws sx) ws A ca B cb w' := by
  refine (ls_read h.ls ⟨#[98]⟩ (mv_read _ _) (by decide) (by rw [mv_used1]; omega)).mono ?_
  rintro e w' ⟨v, rfl, B, cb, rfl, hrow, hb⟩
  have hs := h.ls.disk.size
  have hrow' := own_weaken hrow hs
  refine ⟨B, cb, rfl, ⟨?_, (h.below hb).ls.old⟩, (h.below hb).row, hrow'⟩
  refine h.ls.disk.keep (S := fun _ => False) (Keeps.of_below hb _) (fun _ h => h.elim) (fun b hb => ?_) (fun b hb => ?_)
  · rcases hb with hb | hb
    · exact .inl hb
    · exact .inr (own_base hrow b hb)
  · rcases hb with hb | hb
    · exact own_lt (h.below ‹_›).row b hb
    · exact own_lt hrow b hb
theorem mv_crash1 {w wr : World} {d : Nat} {ws : List Int} {sx : Nat} {A B : Option Addr} {ca cb : Nat} (h : Both w d (mv1 ws sx) ws A ca B cb wr) (hs : sx ≤ ws.length) (k : Int) :
    Calls Try.prog 18 #[.pointer (some ⟨d, 0, none⟩), .slice (some ⟨wr.heap.size, 0, none⟩) 1 1] (wr.alloc (.cells #[.int .i64 k] 3)) fun e w' => e = .returned (.tuple #[]) ∧
      ∃ n : Nat, (n : Int) = sx + min (max k 0) ((ws.length : Int) - sx) ∧ n ≤ ws.length ∧ Both w d (mv1 (ws.take n) n) ws A ca B cb w' := by
  obtain ⟨n, hn, hl, e⟩ := mv_crash ws sx k hs
  refine (ls_crash_lit h.ls (by show 1 * 16 ≤ 140737488355328; decide) [k] (by simp)).mono ?_
  rw [e]
  rintro e w' ⟨rfl, h1, h2⟩
  exact ⟨rfl, n, hn, hl, h1, h2.own h.ra (fun k hk hn => hn.2 (.inl hk)), h2.own h.rb (fun k hk hn => hn.2 (.inr hk))⟩
theorem mv_read2 {w wr : World} {d n : Nat} {ws : List Int} {A B : Option Addr} {ca cb : Nat} (h : Both w d (mv1 (ws.take n) n) ws A ca B cb wr) (hn : n ≤ ws.length) (hx : ws.length ≤ 140737488355328) :
    Calls Try.prog 19 #[.pointer (some ⟨d, 0, none⟩), .string ⟨#[98]⟩] wr fun e w' => ∃ D cd, e = .returned (.tuple #[.slice D n cd, .int .i64 0]) ∧ ws.length ≤ ca ∧
      LS w d (mv1 (ws.take n) n) (fun k => Rown A ws.length ca k ∨ Rown B ws.length cb k) w' ∧ (Kd.int .u8).C w' D n (ws.take n) ∧ (Kd.int .u8).C w' A ws.length ws ∧ (Kd.int .u8).C w' B ws.length ws := by
  have hl : (ws.take n).length = n := by rw [List.length_take]; omega
  refine (ls_read h.ls ⟨#[98]⟩ (mv_read _ _) (by decide) (by rw [mv_used1, hl]; omega)).mono ?_
  rintro e w' ⟨v, rfl, D, cd, rfl, hrow, hb⟩
  rw [hl] at hrow
  rw [hl]
  have kb := Keeps.of_below hb (fun _ => False)
  exact ⟨D, cd, rfl, own_cap h.ra, h.ls.below hb, C_of_own hrow, C_of_own (kb.own h.ra (fun _ _ h => h)), C_of_own (kb.own h.rb (fun _ _ h => h))⟩
theorem mv_room {w wr : World} {d n : Nat} {ws : List Int} {N : Nat → Prop} (h : LS w d (mv1 (ws.take n) n) N wr) (hn : n ≤ ws.length) : Calls Try.prog 25 #[.pointer (some ⟨d, 0, none⟩)] wr fun e w' => e = .returned (.int .i64 (1048576 - n)) ∧ ∃ n, w' = wr.drewN n :=
  ls_room h (by rw [mv_used1, List.length_take, Nat.min_eq_left hn]; rfl)
end Go.Proofs.Ythjdgiobchiloaa
