/-
  THE ENGINE, 0: the words of the mirrors: plain functions on numbers and lists, which may fail ('none').
-/
import GoSem.Core.View
namespace Go.E

/-- How many rounds a loop is followed. -/
def FUEL : Nat := 1000000000000

inductive Step (S X : Type) where
  | next (s : S)
  | done (x : X)

def loopM {S X : Type} : Nat → (S → Option (Step S X)) → S → Option X
  | 0, _, _ => none
  | f + 1, step, s => (step s).bind fun
    | .next s' => loopM f step s'
    | .done x => some x

def chk {α : Type} (c : Prop) [Decidable c] (k : Option α) : Option α := if c then k else none

theorem chk_some {α : Type} {c : Prop} [Decidable c] {k : Option α} {r : α} (h : chk c k = some r) : c ∧ k = some r := by
  unfold chk at h
  split at h
  · exact ⟨‹c›, h⟩
  · cases h
theorem chk_pos {α : Type} {c : Prop} [Decidable c] {k : Option α} (h : c) : chk c k = k := if_pos h

theorem bind_some {α β : Type} {x : Option α} {f : α → Option β} {r : β} (h : x.bind f = some r) : ∃ a, x = some a ∧ f a = some r := Option.bind_eq_some_iff.1 h

theorem ifT {α : Type} {b : Bool} {x y : Option α} {r : α} (hb : b = true) (h : (if b = true then x else y) = some r) : x = some r := by rw [if_pos hb] at h; exact h
theorem ifF {α : Type} {b : Bool} {x y : Option α} {r : α} (hb : b = false) (h : (if b = true then x else y) = some r) : y = some r := by rw [if_neg (by rw [hb]; decide)] at h; exact h

abbrev w64 (n : Int) : Int := IntKind.wrap .i64 n
abbrev wu64 (n : Int) : Int := IntKind.wrap .u64 n

/-- An element at a number; none beyond the ends. -/
def ix {α : Type} (xs : List α) (z : Int) : Option α := if 0 ≤ z ∧ z < (xs.length : Int) then xs[z.toNat]? else none
theorem ix_some {α : Type} {xs : List α} {z : Int} {y : α} (h : ix xs z = some y) : (0 ≤ z ∧ z < (xs.length : Int)) ∧ xs[z.toNat]? = some y := by
  unfold ix at h
  split at h
  · exact ⟨‹_›, h⟩
  · cases h
theorem idx_lt {n : Nat} {z : Int} (h : 0 ≤ z ∧ z < (n : Int)) : z.toNat < n := by omega
theorem mk_ok {bytes : Nat} (hb : bytes ≤ 256) {len cap : Int} (h : 0 ≤ len ∧ len ≤ cap ∧ cap ≤ 1099511627776) : 0 ≤ len ∧ len ≤ cap ∧ (bytes : Int) * cap ≤ 281474976710656 ∧ cap ≤ 9223372036854775807 := by
  obtain ⟨h1, h2, h3⟩ := h
  refine ⟨h1, h2, ?_, by omega⟩
  have : (bytes : Int) * cap ≤ 256 * cap := Int.mul_le_mul_of_nonneg_right (by omega) (by omega)
  omega
theorem ap_ok {bytes : Nat} (hb : bytes ≤ 128) {a b : Nat} (h : a + b ≤ 1099511627776) : (a + b) * bytes ≤ 140737488355328 := by
  have : (a + b) * bytes ≤ (a + b) * 128 := Nat.mul_le_mul_left _ hb
  omega
theorem ap_max {a b : Nat} (h : a + b ≤ 1099511627776) : a + b ≤ 2 ^ 63 - 1 := by omega

/-- Zeros in a part. -/
def clr {α : Type} (xs : List α) (lo q : Nat) (y0 : α) : List α := xs.take lo ++ List.replicate q y0 ++ xs.drop (lo + q)
/-- What a list is once ys stands from lo on, as far as q places reach. -/
def cpy {α : Type} (xs : List α) (lo q : Nat) (ys : List α) : List α := xs.take lo ++ ys.take (min ys.length q) ++ xs.drop (lo + min ys.length q)
def cpn {α : Type} (q : Nat) (ys : List α) : Int := ((min ys.length q : Nat) : Int)

/-- A fold that may fail. -/
def foldS {α S : Type} (step : S → α → Option S) : S → List α → Option S
  | s, [] => some s
  | s, x :: l => (step s x).bind fun s' => foldS step s' l

/-- The pieces of slices.Chunk. -/
def chunksOf {α : Type} (n : Nat) (xs : List α) : List (List α) := (List.range ((xs.length + n - 1) / n)).map fun i => (xs.drop (i * n)).take n

/-- A number that is not negative. -/
def natOf (z : Int) : Option Nat := if 0 ≤ z then some z.toNat else none
theorem natOf_some {z : Int} {n : Nat} (h : natOf z = some n) : z = n := by
  unfold natOf at h
  split at h
  · cases h; omega
  · cases h
end Go.E
