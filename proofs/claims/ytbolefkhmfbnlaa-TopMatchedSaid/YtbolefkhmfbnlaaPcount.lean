/-
  PLAIN: math/bits.OnesCount64 counts the bits.
-/
import Derived.Test.YtbolefkhmfbnlaaPbits
import Derived.Test.YtbolefkhmfbnlaaM
import Derived.KernelRfl
namespace Go.Proofs.Ytbolefkhmfbnlaa
open Go.E

theorem wu_id {z : Int} (h1 : 0 ≤ z) (h2 : z < 18446744073709551616) : wu64 z = z := by
  unfold wu64 IntKind.wrap
  simp only [IntKind.bits, IntKind.signed]
  simp
  omega

theorem and64 (a b : Nat) (ha : a < 18446744073709551616) (hb : b < 18446744073709551616) : wu64 (((BitVec.ofInt 64 (a : Int) &&& BitVec.ofInt 64 (b : Int)).toNat : Int)) = ((a &&& b : Nat) : Int) := by
  have e1 : (BitVec.ofInt 64 (a : Int)).toNat = a := by simp; omega
  have e2 : (BitVec.ofInt 64 (b : Int)).toNat = b := by simp; omega
  rw [BitVec.toNat_and, e1, e2]
  have : a &&& b ≤ a := Nat.and_le_left
  exact wu_id (by omega) (by omega)
theorem xor64 (a b : Nat) (ha : a < 18446744073709551616) (hb : b < 18446744073709551616) : wu64 (((BitVec.ofInt 64 (a : Int) ^^^ BitVec.ofInt 64 (b : Int)).toNat : Int)) = ((a ^^^ b : Nat) : Int) := by
  have e1 : (BitVec.ofInt 64 (a : Int)).toNat = a := by simp; omega
  have e2 : (BitVec.ofInt 64 (b : Int)).toNat = b := by simp; omega
  rw [BitVec.toNat_xor, e1, e2]
  have : a ^^^ b < 2 ^ 64 := Nat.xor_lt_two_pow (by omega) (by omega)
  exact wu_id (by omega) (by omega)
theorem fdiv_nat (a b : Nat) : Int.fdiv (a : Int) (b : Int) = ((a / b : Nat) : Int) := by
  rw [Int.fdiv_eq_ediv_of_nonneg _ (by omega)]; simp

def M0 : Nat := 6148914691236517205
def M1 : Nat := 3689348814741910323
def M2 : Nat := 1085102592571150095
def c1 (x : Nat) : Nat := (x / 2 &&& M0) + (x &&& M0)
def c2 (x : Nat) : Nat := (x / 4 &&& M1) + (x &&& M1)
def c3 (x : Nat) : Nat := (x / 16 + x) &&& M2
def c4 (x : Nat) : Nat := (x + x / 256) % 18446744073709551616
def c5 (x : Nat) : Nat := (x + x / 65536) % 18446744073709551616
def c6 (x : Nat) : Nat := (x + x / 4294967296) % 18446744073709551616

/-- The bits of a number, n of them, the lowest first. -/
def bitsL (x : Nat) : Nat → List Nat
  | 0 => []
  | n + 1 => x % 2 :: bitsL (x / 2) n

theorem bitsL_val : ∀ (n x : Nat), x < 2 ^ n → dval 1 (bitsL x n) = x
  | 0, x, h => by simp [bitsL, dval]; omega
  | n + 1, x, h => by
    simp only [bitsL, dval]
    rw [bitsL_val n (x / 2) (by rw [Nat.pow_succ] at h; omega)]
    omega

/-- Neighbours as pairs. -/
def duo : List Nat → List (Nat × Nat)
  | a :: b :: l => (a, b) :: duo l
  | _ => []

theorem pv_duo (k : Nat) : ∀ l : List Nat, l.length % 2 = 0 → pv k (duo l) = dval k l
  | [], _ => rfl
  | [_], h => by simp at h
  | a :: b :: l, h => by
    have ih := pv_duo k l (by simp only [List.length_cons] at h; omega)
    show a + 2 ^ k * b + 2 ^ (2 * k) * pv k (duo l) = a + 2 ^ k * (b + 2 ^ k * dval k l)
    rw [ih, Nat.mul_add, ← Nat.mul_assoc, ← Nat.pow_add, ← Nat.two_mul, Nat.add_assoc]

def sum2 (l : List Nat) : List Nat := (duo l).map fun p => p.1 + p.2
theorem sum2_len : ∀ (l : List Nat), (duo l).length = l.length / 2
  | [] => rfl
  | [_] => by simp [duo]
  | a :: b :: l => by
    simp only [duo, List.length_cons]
    rw [sum2_len l]; omega
theorem duo_mem (Q : Nat → Prop) : ∀ l : List Nat, (∀ d, d ∈ l → Q d) → ∀ p, p ∈ duo l → Q p.1 ∧ Q p.2
  | [], _, p, hp => by simp [duo] at hp
  | [_], _, p, hp => by simp [duo] at hp
  | a :: b :: l, h, p, hp => by
    simp only [duo, List.mem_cons] at hp
    rcases hp with rfl | hp
    · exact ⟨h a (by simp), h b (by simp)⟩
    · exact duo_mem Q l (fun d hd => h d (by simp [hd])) p hp
theorem sum2_bd {c : Nat} (l : List Nat) (h : ∀ d, d ∈ l → d ≤ c) : ∀ d, d ∈ sum2 l → d ≤ 2 * c := by
  intro d hd
  unfold sum2 at hd
  obtain ⟨p, hp, rfl⟩ := List.mem_map.1 hd
  have := duo_mem (fun d => d ≤ c) l h p hp
  omega
theorem sum2_sum : ∀ l : List Nat, l.length % 2 = 0 → (sum2 l).sum = l.sum
  | [], _ => rfl
  | [_], h => by simp at h
  | a :: b :: l, h => by
    have ih := sum2_sum l (by simp only [List.length_cons] at h; omega)
    show (a + b) + (sum2 l).sum = a + (b + l.sum)
    rw [ih]; omega

theorem step_swar (k c : Nat) (l : List Nat) (hl : l.length % 2 = 0) (hc : c < 2 ^ k) (h : ∀ d, d ∈ l → d ≤ c) : (dval k l / 2 ^ k &&& lowm k (l.length / 2)) + (dval k l &&& lowm k (l.length / 2)) = dval (2 * k) (sum2 l) := by
  have hb : pbd k (duo l) := fun p hp => by
    have := duo_mem (fun d => d ≤ c) l h p hp
    omega
  have := swar k (duo l) hb
  rw [pv_duo k l hl, sum2_len] at this
  exact this

theorem shiftp_mem (Q : Nat → Prop) (h0 : Q 0) : ∀ ps : List (Nat × Nat), (∀ p, p ∈ ps → Q p.1 ∧ Q p.2) → ∀ p, p ∈ shiftp ps → Q p.1 ∧ Q p.2
  | [], _, p, hp => by simp [shiftp] at hp
  | [q], h, p, hp => by
    simp only [shiftp, List.mem_singleton] at hp
    subst hp
    exact ⟨(h q (by simp)).2, h0⟩
  | q :: r :: ps, h, p, hp => by
    simp only [shiftp, List.mem_cons] at hp
    rcases hp with rfl | hp
    · exact ⟨(h q (by simp)).2, (h r (by simp)).1⟩
    · exact shiftp_mem Q h0 (r :: ps) (fun x hx => h x (by simp [hx])) p (by simpa [shiftp] using hp)

theorem step_swar' (k c : Nat) (l : List Nat) (hl : l.length % 2 = 0) (hc : 2 * c < 2 ^ k) (h : ∀ d, d ∈ l → d ≤ c) : (dval k l / 2 ^ k + dval k l) &&& lowm k (l.length / 2) = dval (2 * k) (sum2 l) := by
  have hq := duo_mem (fun d => d ≤ c) l h
  have hb : pbd k (duo l) := fun p hp => by
    have := hq p hp
    omega
  have := swar' k (duo l) hb (fun p q hp hq' => by
    have h1 := hq p hp
    have h2 := shiftp_mem (fun d => d ≤ c) (Nat.zero_le _) (duo l) hq q hq'
    omega)
  rw [pv_duo k l hl, sum2_len] at this
  exact this

theorem bitsL_len : ∀ (n x : Nat), (bitsL x n).length = n
  | 0, _ => rfl
  | n + 1, x => by simp [bitsL, bitsL_len n]
theorem bitsL_bd : ∀ (n x d : Nat), d ∈ bitsL x n → d ≤ 1
  | 0, _, d, h => by simp [bitsL] at h
  | n + 1, x, d, h => by
    simp only [bitsL, List.mem_cons] at h
    rcases h with rfl | h
    · omega
    · exact bitsL_bd n _ d h

theorem low8 (l : List Nat) (hl : l.length = 8) (h : ∀ d, d ∈ l → d ≤ 8) : c6 (c5 (c4 (dval 8 l))) % 128 = l.sum := by
  match l, hl with
  | [a, b, c, d, e, f, g, i], _ =>
    have h1 := h a (by simp)
    have h2 := h b (by simp)
    have h3 := h c (by simp)
    have h4 := h d (by simp)
    have h5 := h e (by simp)
    have h6 := h f (by simp)
    have h7 := h g (by simp)
    have h8 := h i (by simp)
    have e4 : c4 (dval 8 [a, b, c, d, e, f, g, i]) = dval 8 [a + b, b + c, c + d, d + e, e + f, f + g, g + i, i] := by
      have q : dval 8 [a, b, c, d, e, f, g, i] / 256 = dval 8 [b, c, d, e, f, g, i] := dval_shr 8 a _ (by omega)
      unfold c4
      rw [q]
      simp only [dval]
      omega
    have e5 : c5 (dval 8 [a + b, b + c, c + d, d + e, e + f, f + g, g + i, i]) = dval 8 [a + b + c + d, b + c + d + e, c + d + e + f, d + e + f + g, e + f + g + i, f + g + i, g + i, i] := by
      have q : dval 8 [a + b, b + c, c + d, d + e, e + f, f + g, g + i, i] / 65536 = dval 8 [c + d, d + e, e + f, f + g, g + i, i] := by
        rw [show (65536 : Nat) = 2 ^ 8 * 2 ^ 8 from rfl, ← Nat.div_div_eq_div_mul, dval_shr 8 _ _ (by omega), dval_shr 8 _ _ (by omega)]
      unfold c5
      rw [q]
      simp only [dval]
      omega
    have e6 : c6 (dval 8 [a + b + c + d, b + c + d + e, c + d + e + f, d + e + f + g, e + f + g + i, f + g + i, g + i, i]) = dval 8 [a + b + c + d + e + f + g + i, b + c + d + e + f + g + i, c + d + e + f + g + i, d + e + f + g + i, e + f + g + i, f + g + i, g + i, i] := by
      have q : dval 8 [a + b + c + d, b + c + d + e, c + d + e + f, d + e + f + g, e + f + g + i, f + g + i, g + i, i] / 4294967296 = dval 8 [e + f + g + i, f + g + i, g + i, i] := by
        rw [show (4294967296 : Nat) = 2 ^ 8 * 2 ^ 8 * 2 ^ 8 * 2 ^ 8 from rfl, ← Nat.div_div_eq_div_mul, ← Nat.div_div_eq_div_mul, ← Nat.div_div_eq_div_mul, dval_shr 8 _ _ (by omega), dval_shr 8 _ _ (by omega), dval_shr 8 _ _ (by omega), dval_shr 8 _ _ (by omega)]
      unfold c6
      rw [q]
      simp only [dval]
      omega
    rw [e4, e5, e6]
    simp only [dval, List.sum_cons, List.sum_nil]
    omega

/-- How many of the bits are set. -/
def pc (x : Nat) : Nat := (bitsL x 64).sum

theorem mask0 : lowm 1 32 = M0 := by kernel_rfl
theorem mask1 : lowm 2 16 = M1 := by kernel_rfl
theorem mask2 : lowm 4 8 = M2 := by kernel_rfl

theorem swar_pc (x : Nat) (hx : x < 18446744073709551616) : c6 (c5 (c4 (c3 (c2 (c1 x))))) % 128 = pc x := by
  have b0 := bitsL_bd 64 x
  have l0 := bitsL_len 64 x
  have v0 := bitsL_val 64 x hx
  have s1 := step_swar 1 1 (bitsL x 64) (by rw [l0]) (by decide) b0
  rw [v0, l0, mask0] at s1
  have l1 : (sum2 (bitsL x 64)).length = 32 := by unfold sum2; rw [List.length_map, sum2_len, l0]
  have b1 := sum2_bd _ b0
  have s2 := step_swar 2 2 (sum2 (bitsL x 64)) (by rw [l1]) (by decide) b1
  rw [l1, mask1] at s2
  have l2 : (sum2 (sum2 (bitsL x 64))).length = 16 := by
    show (List.map _ _).length = _
    rw [List.length_map, sum2_len, l1]
  have b2 := sum2_bd _ b1
  have s3 := step_swar' 4 4 (sum2 (sum2 (bitsL x 64))) (by rw [l2]) (by decide) b2
  rw [l2, mask2] at s3
  have l3 : (sum2 (sum2 (sum2 (bitsL x 64)))).length = 8 := by
    show (List.map _ _).length = _
    rw [List.length_map, sum2_len, l2]
  have b3 := sum2_bd _ b2
  have e1 : c1 x = dval 2 (sum2 (bitsL x 64)) := s1
  have e2 : c2 (c1 x) = dval 4 (sum2 (sum2 (bitsL x 64))) := by rw [e1]; exact s2
  have e3 : c3 (c2 (c1 x)) = dval 8 (sum2 (sum2 (sum2 (bitsL x 64)))) := by rw [e2]; exact s3
  rw [e3, low8 _ l3 b3, sum2_sum _ (by rw [l2]), sum2_sum _ (by rw [l1]), sum2_sum _ (by rw [l0])]
  rfl

/-! ### The words of the code, on numbers -/

def I0 (z : Int) : Int := wu64 ((wu64 (((BitVec.ofInt 64 (Int.fdiv z (2 ^ (min (1 : Int).toNat 64))) &&& BitVec.ofInt 64 6148914691236517205).toNat : Int))) + (wu64 (((BitVec.ofInt 64 z &&& BitVec.ofInt 64 6148914691236517205).toNat : Int))))
def I1' (z : Int) : Int := wu64 ((wu64 (((BitVec.ofInt 64 (Int.fdiv z (2 ^ (min (2 : Int).toNat 64))) &&& BitVec.ofInt 64 3689348814741910323).toNat : Int))) + (wu64 (((BitVec.ofInt 64 z &&& BitVec.ofInt 64 3689348814741910323).toNat : Int))))
def I2 (z : Int) : Int := wu64 (((BitVec.ofInt 64 (wu64 ((Int.fdiv z (2 ^ (min (4 : Int).toNat 64))) + z)) &&& BitVec.ofInt 64 1085102592571150095).toNat : Int))
def I3 (z : Int) : Int := wu64 (z + (Int.fdiv z (2 ^ (min (8 : Int).toNat 64))))
def I4 (z : Int) : Int := wu64 (z + (Int.fdiv z (2 ^ (min (16 : Int).toNat 64))))
def I5 (z : Int) : Int := wu64 (z + (Int.fdiv z (2 ^ (min (32 : Int).toNat 64))))

theorem wu_nat (n : Nat) : wu64 (n : Int) = ((n % 18446744073709551616 : Nat) : Int) := by
  unfold wu64 IntKind.wrap
  simp only [IntKind.bits, IntKind.signed]
  simp

theorem and_mask_le (a b : Nat) : a &&& b ≤ b := Nat.and_le_right

theorem I0_nat (x : Nat) (hx : x < 18446744073709551616) : I0 x = ((c1 x : Nat) : Int) := by
  unfold I0
  rw [show ((2 : Int) ^ (min (1 : Int).toNat 64)) = ((2 : Nat) : Int) by rfl, fdiv_nat, show (6148914691236517205 : Int) = ((M0 : Nat) : Int) by rfl, and64 _ _ (by omega) (by decide), and64 _ _ hx (by decide)]
  have h1 : x / 2 &&& M0 ≤ M0 := and_mask_le _ _
  have h2 : x &&& M0 ≤ M0 := and_mask_le _ _
  have h3 : M0 = 6148914691236517205 := rfl
  rw [← Int.natCast_add, wu_nat]
  unfold c1
  congr 1
  omega
theorem c1_lt (x : Nat) : c1 x < 18446744073709551616 := by
  have h1 : x / 2 &&& M0 ≤ M0 := and_mask_le _ _
  have h2 : x &&& M0 ≤ M0 := and_mask_le _ _
  have h3 : M0 = 6148914691236517205 := rfl
  unfold c1; omega
theorem I1_nat (x : Nat) (hx : x < 18446744073709551616) : I1' x = ((c2 x : Nat) : Int) := by
  unfold I1'
  rw [show ((2 : Int) ^ (min (2 : Int).toNat 64)) = ((4 : Nat) : Int) by rfl, fdiv_nat, show (3689348814741910323 : Int) = ((M1 : Nat) : Int) by rfl, and64 _ _ (by omega) (by decide), and64 _ _ hx (by decide)]
  have h1 : x / 4 &&& M1 ≤ M1 := and_mask_le _ _
  have h2 : x &&& M1 ≤ M1 := and_mask_le _ _
  have h3 : M1 = 3689348814741910323 := rfl
  rw [← Int.natCast_add, wu_nat]
  unfold c2
  congr 1
  omega
theorem c2_lt (x : Nat) : c2 x < 18446744073709551616 := by
  have h1 : x / 4 &&& M1 ≤ M1 := and_mask_le _ _
  have h2 : x &&& M1 ≤ M1 := and_mask_le _ _
  have h3 : M1 = 3689348814741910323 := rfl
  unfold c2; omega
theorem c2_small (x : Nat) : c2 x ≤ 7378697629483820646 := by
  have h1 : x / 4 &&& M1 ≤ M1 := and_mask_le _ _
  have h2 : x &&& M1 ≤ M1 := and_mask_le _ _
  have h3 : M1 = 3689348814741910323 := rfl
  unfold c2; omega
theorem I2_nat (x : Nat) (hx : x ≤ 7378697629483820646) : I2 x = ((c3 x : Nat) : Int) := by
  unfold I2
  rw [show ((2 : Int) ^ (min (4 : Int).toNat 64)) = ((16 : Nat) : Int) by rfl, fdiv_nat, ← Int.natCast_add]
  have e : wu64 ((x / 16 + x : Nat) : Int) = ((x / 16 + x : Nat) : Int) := by rw [wu_nat, Nat.mod_eq_of_lt (by omega)]
  rw [e, show (1085102592571150095 : Int) = ((M2 : Nat) : Int) by rfl, and64 _ _ (by omega) (by decide)]
  rfl
theorem c3_lt (x : Nat) : c3 x < 18446744073709551616 := by
  have h1 : (x / 16 + x) &&& M2 ≤ M2 := and_mask_le _ _
  have h3 : M2 = 1085102592571150095 := rfl
  unfold c3; omega
theorem I3_nat (x : Nat) : I3 x = ((c4 x : Nat) : Int) := by
  unfold I3
  rw [show ((2 : Int) ^ (min (8 : Int).toNat 64)) = ((256 : Nat) : Int) by rfl, fdiv_nat, ← Int.natCast_add, wu_nat]
  rfl
theorem I4_nat (x : Nat) : I4 x = ((c5 x : Nat) : Int) := by
  unfold I4
  rw [show ((2 : Int) ^ (min (16 : Int).toNat 64)) = ((65536 : Nat) : Int) by rfl, fdiv_nat, ← Int.natCast_add, wu_nat]
  rfl
theorem I5_nat (x : Nat) : I5 x = ((c6 x : Nat) : Int) := by
  unfold I5
  rw [show ((2 : Int) ^ (min (32 : Int).toNat 64)) = ((4294967296 : Nat) : Int) by rfl, fdiv_nat, ← Int.natCast_add, wu_nat]
  rfl

theorem ones_form (z : Int) : bits_OnesCount64 z = some (w64 (((BitVec.ofInt 64 (w64 (I5 (I4 (I3 (I2 (I1' (I0 z))))))) &&& BitVec.ofInt 64 127).toNat : Int))) := by kernel_rfl

theorem w64_nat_and (y : Nat) (hy : y < 18446744073709551616) : w64 (((BitVec.ofInt 64 (w64 (y : Int)) &&& BitVec.ofInt 64 127).toNat : Int)) = ((y % 128 : Nat) : Int) := by
  have e1 : (BitVec.ofInt 64 (w64 (y : Int))).toNat = y := by
    have : BitVec.ofInt 64 (w64 (y : Int)) = BitVec.ofNat 64 y := by
      apply BitVec.eq_of_toNat_eq
      rw [BitVec.toNat_ofInt, BitVec.toNat_ofNat]
      unfold w64 IntKind.wrap
      simp only [IntKind.bits, IntKind.signed]
      simp
      omega
    rw [this, BitVec.toNat_ofNat]
    exact Nat.mod_eq_of_lt hy
  have e2 : (BitVec.ofInt 64 127).toNat = 2 ^ 7 - 1 := by rfl
  rw [BitVec.toNat_and, e1, e2, Nat.and_two_pow_sub_one_eq_mod]
  exact w64_id (by omega) (by omega)

/-- math/bits.OnesCount64 -/
theorem ones_ok (x : Nat) (hx : x < 18446744073709551616) : bits_OnesCount64 (x : Int) = some ((pc x : Nat) : Int) := by
  rw [ones_form, I0_nat x hx, I1_nat _ (c1_lt x), I2_nat _ (c2_small _), I3_nat, I4_nat, I5_nat, w64_nat_and _ (show c6 _ < _ from Nat.mod_lt _ (by decide)), swar_pc x hx]

/-! ### A metric -/

theorem pc_le : ∀ (n x : Nat), (bitsL x n).sum ≤ n
  | 0, x => by simp [bitsL]
  | n + 1, x => by
    have := pc_le n (x / 2)
    simp only [bitsL, List.sum_cons]
    omega

theorem xor_half (a b : Nat) : (a ^^^ b) / 2 = (a / 2) ^^^ (b / 2) := Nat.xor_div_two
theorem xor_mod (a b : Nat) : (a ^^^ b) % 2 = (a % 2 + b % 2) % 2 := by
  have h := Nat.testBit_xor a b 0
  simp only [Nat.testBit_zero] at h
  have h1 : a % 2 = 0 ∨ a % 2 = 1 := by omega
  have h2 : b % 2 = 0 ∨ b % 2 = 1 := by omega
  have h3 : (a ^^^ b) % 2 = 0 ∨ (a ^^^ b) % 2 = 1 := by omega
  rcases h1 with h1 | h1 <;> rcases h2 with h2 | h2 <;> rcases h3 with h3 | h3 <;> simp [h1, h2, h3] at h ⊢

theorem bits_tri : ∀ (n a b c : Nat), (bitsL (a ^^^ c) n).sum ≤ (bitsL (a ^^^ b) n).sum + (bitsL (b ^^^ c) n).sum
  | 0, a, b, c => by simp [bitsL]
  | n + 1, a, b, c => by
    have ih := bits_tri n (a / 2) (b / 2) (c / 2)
    simp only [bitsL, List.sum_cons, xor_half]
    have h1 := xor_mod a c
    have h2 := xor_mod a b
    have h3 := xor_mod b c
    omega

theorem bits_zero : ∀ (n x : Nat), x < 2 ^ n → (bitsL x n).sum = 0 → x = 0
  | 0, x, h, _ => by simp at h; exact h
  | n + 1, x, h, hs => by
    simp only [bitsL, List.sum_cons] at hs
    have := bits_zero n (x / 2) (by rw [Nat.pow_succ] at h; omega) (by omega)
    omega

theorem bits_of_zero : ∀ n : Nat, (bitsL 0 n).sum = 0
  | 0 => rfl
  | n + 1 => by simp only [bitsL, List.sum_cons]; rw [show 0 / 2 = 0 from rfl, bits_of_zero n]

theorem pc_zero (a b : Nat) (ha : a < 18446744073709551616) (hb : b < 18446744073709551616) : pc (a ^^^ b) = 0 ↔ a = b := by
  constructor
  · intro h
    have hx : a ^^^ b < 2 ^ 64 := Nat.xor_lt_two_pow (by omega) (by omega)
    have := bits_zero 64 (a ^^^ b) hx h
    apply Nat.eq_of_testBit_eq
    intro i
    have h9 := congrArg (fun z => z.testBit i) this
    simpa using h9
  · rintro rfl
    rw [Nat.xor_self]
    exact bits_of_zero 64

theorem pc_bd (x : Nat) : pc x ≤ 64 := pc_le 64 x
theorem pc_tri (a b c : Nat) : pc (a ^^^ c) ≤ pc (a ^^^ b) + pc (b ^^^ c) := bits_tri 64 a b c
theorem pc_comm (a b : Nat) : pc (a ^^^ b) = pc (b ^^^ a) := by rw [Nat.xor_comm]

end Go.Proofs.Ytbolefkhmfbnlaa
