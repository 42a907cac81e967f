/-
  PLAIN: sums.
-/
import Derived.Test.YtbolefkhmfbnlaaQGrid
import Derived.KernelRfl
set_option linter.unusedSimpArgs false
namespace Go.Proofs.Ytbolefkhmfbnlaa
open Go.E

def tot (f : Nat → Int) : Nat → Int
  | 0 => 0
  | n + 1 => tot f n + f n

theorem tot_add (f g : Nat → Int) : ∀ n, tot (fun i => f i + g i) n = tot f n + tot g n
  | 0 => rfl
  | n + 1 => by simp only [tot, tot_add f g n]; omega

theorem tot_congr {f g : Nat → Int} : ∀ n, (∀ i, i < n → f i = g i) → tot f n = tot g n
  | 0, _ => rfl
  | n + 1, h => by simp only [tot]; rw [tot_congr n (fun i hi => h i (by omega)), h n (by omega)]

theorem tot_zero : ∀ n, tot (fun _ => 0) n = 0
  | 0 => rfl
  | n + 1 => by simp only [tot, tot_zero n]; rfl

theorem tot_swap (f : Nat → Nat → Int) (H : Nat) : ∀ W : Nat, tot (fun y => tot (fun x => f x y) W) H = tot (fun x => tot (fun y => f x y) H) W
  | 0 => by simp only [tot]; exact tot_zero H
  | W + 1 => by
    simp only [tot]
    rw [tot_add, tot_swap f H W]

theorem tot_front (f : Nat → Int) : ∀ n, tot f (n + 1) = f 0 + tot (fun i => f (i + 1)) n
  | 0 => by simp [tot]
  | n + 1 => by rw [tot, tot_front f n]; simp only [tot]; omega

theorem tot_rev (f : Nat → Int) : ∀ n, tot (fun i => f (n - 1 - i)) n = tot f n
  | 0 => rfl
  | n + 1 => by
    rw [tot_front]
    have : tot (fun i => f (n + 1 - 1 - (i + 1))) n = tot (fun i => f (n - 1 - i)) n := tot_congr n (fun i hi => by congr 1; omega)
    rw [this, tot_rev f n]
    simp only [tot, Nat.add_sub_cancel, Nat.sub_zero]
    omega

theorem tot_bound {f : Nat → Int} {c : Int} : ∀ n : Nat, (∀ i, i < n → 0 ≤ f i ∧ f i ≤ c) → 0 ≤ tot f n ∧ tot f n ≤ n * c
  | 0, _ => by simp [tot]
  | n + 1, h => by
    have ih := tot_bound n (fun i hi => h i (by omega))
    have h1 := h n (by omega)
    have e : ((n + 1 : Nat) : Int) * c = n * c + c := by rw [Int.natCast_add]; rw [Int.add_mul]; simp
    simp only [tot]
    rw [e]
    omega

theorem tot_split (f : Nat → Int) (a : Nat) : ∀ b, tot f (a + b) = tot f a + tot (fun i => f (a + i)) b
  | 0 => by simp [tot]
  | b + 1 => by
    rw [← Nat.add_assoc]
    simp only [tot]
    rw [tot_split f a b]
    omega

def Sm (g : Nat → Nat → Int) (x y : Nat) : Int := tot (fun j => tot (fun i => g i j) x) y

theorem Sm_bound {W H : Nat} {m : Int} {g : Nat → Nat → Int} (bd : Bd W H m g) {x y : Nat} (hx : x ≤ W) (hy : y ≤ H) : 0 ≤ Sm g x y ∧ Sm g x y ≤ 300000000 := by
  obtain ⟨b1, b2, b3, b4, b5, b6, b7⟩ := bd
  have h1 : ∀ j, j < y → 0 ≤ tot (fun i => g i j) x ∧ tot (fun i => g i j) x ≤ 64 * 65535 := fun j hj => by
    have := tot_bound (f := fun i => g i j) (c := 65535) x (fun i hi => by
      have := b7 i j (by omega) (by omega)
      omega)
    have h2 : (x : Int) * 65535 ≤ 64 * 65535 := Int.mul_le_mul_of_nonneg_right (by omega) (by omega)
    omega
  have := tot_bound (f := fun j => tot (fun i => g i j) x) (c := 64 * 65535) y h1
  have h2 : (y : Int) * (64 * 65535) ≤ 64 * (64 * 65535) := Int.mul_le_mul_of_nonneg_right (by omega) (by omega)
  unfold Sm
  omega

theorem Sm_step (g : Nat → Nat → Int) (x y : Nat) : Sm g (x + 1) (y + 1) = Sm g (x + 1) y + Sm g x (y + 1) - Sm g x y + g x y := by
  unfold Sm
  simp only [tot]
  omega

theorem Sm_zero_x (g : Nat → Nat → Int) (y : Nat) : Sm g 0 y = 0 := by
  unfold Sm
  simp only [tot]
  exact tot_zero y

theorem Sm_zero_y (g : Nat → Nat → Int) (x : Nat) : Sm g x 0 = 0 := rfl

def Rc (g : Nat → Nat → Int) (X Y A B : Nat) : Int := tot (fun j => tot (fun i => g (X + i) (Y + j)) A) B

theorem Rc_Sm (g : Nat → Nat → Int) (X Y A B : Nat) : Rc g X Y A B = Sm g (X + A) (Y + B) - Sm g (X + A) Y - Sm g X (Y + B) + Sm g X Y := by
  unfold Rc Sm
  rw [tot_split (fun j => tot (fun i => g i j) (X + A)) Y B, tot_split (fun j => tot (fun i => g i j) X) Y B]
  have : tot (fun i => tot (fun i_1 => g i_1 (Y + i)) (X + A)) B = tot (fun i => tot (fun i_1 => g i_1 (Y + i)) X) B + tot (fun j => tot (fun i => g (X + i) (Y + j)) A) B := by
    rw [← tot_add]
    exact tot_congr B (fun j _ => tot_split (fun i => g i (Y + j)) X A)
  omega

theorem Rc_zero (g : Nat → Nat → Int) (A B : Nat) : Rc g 0 0 A B = Sm g A B := by
  unfold Rc Sm
  simp only [Nat.zero_add]

def rowS (g : Nat → Nat → Int) (W y : Nat) : List Int := (List.range (W + 1)).map (fun x => Sm g x y)

def tabS (g : Nat → Nat → Int) (W H : Nat) : List (List Int) := (List.range (H + 1)).map (fun y => rowS g W y)

theorem rowS_get (g : Nat → Nat → Int) (W y : Nat) {x : Nat} (hx : x ≤ W) : (rowS g W y)[x]? = some (Sm g x y) := by
  unfold rowS
  rw [List.getElem?_map, List.getElem?_range (by omega)]; rfl

theorem tabS_get (g : Nat → Nat → Int) (W H : Nat) {y : Nat} (hy : y ≤ H) : (tabS g W H)[y]? = some (rowS g W y) := by
  unfold tabS
  rw [List.getElem?_map, List.getElem?_range (by omega)]; rfl

theorem tabS_len (g : Nat → Nat → Int) (W H : Nat) : (tabS g W H).length = H + 1 := by simp [tabS]

theorem rowS_len (g : Nat → Nat → Int) (W y : Nat) : (rowS g W y).length = W + 1 := by simp [rowS]

end Go.Proofs.Ytbolefkhmfbnlaa
