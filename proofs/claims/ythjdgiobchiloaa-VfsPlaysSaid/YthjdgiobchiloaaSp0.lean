/-
  What is proved: the plain law of VfsSteps (the disk round by round); no condition.
-/
import Derived.Test.YthjdgiobchiloaaLsm
import Derived.Laws.BitsLemmas
namespace Go.Proofs.Ythjdgiobchiloaa
open Go.RowKit Go.Proofs.YthjdgiobchiloaaW.PrintWords Go.Maps
set_option linter.unusedVariables false
set_option linter.unusedSimpArgs false

theorem and_small (a : Int) (c : Nat) (hc : c < 2147483648) : 0 ≤ bits .and .i64 a c ∧ bits .and .i64 a c ≤ c := by
  have h : (BitVec.ofInt 64 a &&& BitVec.ofInt 64 (c : Int)).toNat ≤ c := by
    rw [BitVec.toNat_and, BitVec.ofInt_natCast, BitVec.toNat_ofNat]
    exact Nat.le_trans Nat.and_le_right (Nat.mod_le _ _)
  have e : bits .and .i64 a c = IntKind.i64.wrap ((BitVec.ofInt 64 a &&& BitVec.ofInt 64 (c : Int)).toNat : Int) := by rfl
  rw [e, IntKind.wrap_i64]
  omega

def AF.eqb (f g : AF) : Bool := f.nm.data.toList == g.nm.data.toList && f.bs == g.bs && f.safe == g.safe
def AS.eqb (a b : AS) : Bool := (a.fl.length == b.fl.length && (a.fl.zip b.fl).all (fun p => p.1.eqb p.2)) && a.most == b.most && a.fuse == b.fuse && a.down == b.down
theorem AF.of_eqb {f g : AF} (h : f.eqb g = true) : f = g := by
  cases f
  cases g
  simp [AF.eqb] at h
  obtain ⟨⟨h1, h2⟩, h3⟩ := h
  rw [ByteArray.ext h1, h2, h3]
theorem fl_of_eqb : ∀ {a b : List AF}, a.length = b.length → (a.zip b).all (fun p => p.1.eqb p.2) = true → a = b
  | [], [], _, _ => rfl
  | f :: r, g :: s, h, k => by
    simp only [List.zip_cons_cons, List.all_cons, Bool.and_eq_true] at k
    rw [AF.of_eqb k.1, fl_of_eqb (by simpa using h) k.2]
  | [], _ :: _, h, _ => by simp at h
  | _ :: _, [], h, _ => by simp at h
theorem AS.of_eqb {a b : AS} (h : a.eqb b = true) : a = b := by
  unfold AS.eqb at h
  simp only [Bool.and_eq_true, beq_iff_eq] at h
  obtain ⟨⟨⟨⟨h1, h2⟩, h3⟩, h4⟩, h5⟩ := h
  cases a
  cases b
  simp only at h1 h2 h3 h4 h5
  rw [fl_of_eqb h1 h2, h3, h4, h5]

def nmF (i : Nat) : ByteArray := strOfNums [97 + (i : Int)]
/-- The disk ahead of round i, the power going at step F. -/
def stF (F i : Nat) : AS := ⟨(List.range (min i (F - 1))).map (fun j => ⟨nmF j, [], 0⟩), 1000, if i < F then (F : Int) - i else 0, decide (F ≤ i)⟩
theorem st_all : ∀ F : Nat, F < 17 → 1 ≤ F → (Vm.fail ⟨[], 1000, 0, false⟩ (F : Int)).eqb (stF F 0) = true ∧ (∀ i : Nat, i < 20 → (Vm.create (stF F i) (nmF i)).1.eqb (stF F (i + 1)) = true ∧ (Vm.create (stF F i) (nmF i)).2 = (if i + 1 < F then 0 else 70)
    ∧ (Vm.remove (stF F i) ⟨#[110, 111, 110, 101]⟩).1.eqb (stF F i) = true ∧ (Vm.create (stF F i) ⟨#[]⟩).1.eqb (stF F i) = true ∧ (Vm.append (stF F i) ⟨#[110, 111, 110, 101]⟩ []).1.eqb (stF F i) = true) ∧
    (Vm.crash (stF F 20) []).fl.length = F - 1 ∧ (Vm.crash (stF F 20) []).down = false ∧ (Vm.create (Vm.crash (stF F 20) []) ⟨#[122]⟩).2 = 0 := by decide +kernel
section
variable {F : Nat} (hF : F < 17) (h1 : 1 ≤ F)
include hF h1
theorem st_fail : Vm.fail ⟨[], 1000, 0, false⟩ (F : Int) = stF F 0 := AS.of_eqb (st_all F hF h1).1
theorem st_create {i : Nat} (hi : i < 20) {r : Int} (hr : r = if i + 1 < F then 0 else 70) : Vm.create (stF F i) (nmF i) = (stF F (i + 1), r) := by
  have h := (st_all F hF h1).2.1 i hi
  rw [hr, ← h.2.1, ← AS.of_eqb h.1]
theorem st_remove {i : Nat} (hi : i < 20) : Vm.remove (stF F i) ⟨#[110, 111, 110, 101]⟩ = (stF F i, (Vm.remove (stF F i) ⟨#[110, 111, 110, 101]⟩).2) := by
  have h := AS.of_eqb ((st_all F hF h1).2.1 i hi).2.2.1
  generalize Vm.remove (stF F i) ⟨#[110, 111, 110, 101]⟩ = q at *
  rw [← h]
theorem st_create0 {i : Nat} (hi : i < 20) : Vm.create (stF F i) ⟨#[]⟩ = (stF F i, (Vm.create (stF F i) ⟨#[]⟩).2) := by
  have h := AS.of_eqb ((st_all F hF h1).2.1 i hi).2.2.2.1
  generalize Vm.create (stF F i) ⟨#[]⟩ = q at *
  rw [← h]
theorem st_append {i : Nat} (hi : i < 20) : Vm.append (stF F i) ⟨#[110, 111, 110, 101]⟩ [] = (stF F i, (Vm.append (stF F i) ⟨#[110, 111, 110, 101]⟩ []).2) := by
  have h := AS.of_eqb ((st_all F hF h1).2.1 i hi).2.2.2.2
  generalize Vm.append (stF F i) ⟨#[110, 111, 110, 101]⟩ [] = q at *
  rw [← h]
theorem st_end : (Vm.crash (stF F 20) []).fl.length = F - 1 ∧ (Vm.crash (stF F 20) []).down = false ∧ (Vm.create (Vm.crash (stF F 20) []) ⟨#[122]⟩).2 = 0 := (st_all F hF h1).2.2
end
theorem st_used (F i : Nat) : Vm.used (stF F i).fl = 0 := by
  unfold stF
  generalize min i (F - 1) = n
  suffices h : ∀ l : List Nat, Vm.used (l.map (fun j => (⟨nmF j, [], 0⟩ : AF))) = 0 from h _
  intro l
  induction l with
  | nil => rfl
  | cons a r ih => show 0 + Vm.used (r.map _) = 0; rw [ih]
theorem st_len {F i : Nat} (hF : F < 17) : (stF F i).fl.length ≤ 16 := by
  unfold stF
  simp
  omega
theorem nmF_size (i : Nat) : (nmF i).size ≤ maxLen := by
  show ([97 + (i : Int)].map _).toArray.size ≤ maxLen
  simp [maxLen]
theorem nmF_conv (k : Nat) (W : World) : (convert 28 9 (.slice (some ⟨W.heap.size, 0, none⟩) 1 1)).run Try.prog (W.alloc (.cells #[.int .u8 (97 + (k : Int))] 5)) = .ok (.string (nmF k)) (W.alloc (.cells #[.int .u8 (97 + (k : Int))] 5)) :=
  own_string Try.underlying28 Try.underlying5 Try.underlying9 (own_lit W W.heap.size 5 .u8 [97 + (k : Int)] (Nat.le_refl _) (by simp))
theorem C_nil (k : IntKind) (w : World) : (Kd.int k).C w none 0 [] := Kd.C_of_reads (d := 0) ⟨rfl, by decide, fun h => by cases h⟩

def StRel (w : World) (d F kq : Nat) (done i : Value) (wr : World) : Prop :=
  ∃ k : Nat, k + kq = 20 ∧ i = .int .i64 k ∧ done = .int .i64 (min k (F - 1) : Nat) ∧ LS w d (stF F k) (fun _ => False) wr
end Go.Proofs.Ythjdgiobchiloaa
