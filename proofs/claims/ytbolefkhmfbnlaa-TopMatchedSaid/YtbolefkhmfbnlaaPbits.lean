/-
  PLAIN: the number of bits of a word, by sums of neighbours.
-/
import Derived.Test.YtbolefkhmfbnlaaP0
namespace Go.E

/-- The number with the given digits to the base 2^k, the lowest first. -/
def dval (k : Nat) : List Nat → Nat
  | [] => 0
  | d :: ds => d + 2 ^ k * dval k ds

def dbd (k : Nat) (ds : List Nat) : Prop := ∀ d, d ∈ ds → d < 2 ^ k

theorem and_cat (k a b x y : Nat) (ha : a < 2 ^ k) (hb : b < 2 ^ k) : (a + 2 ^ k * x) &&& (b + 2 ^ k * y) = (a &&& b) + 2 ^ k * (x &&& y) := by
  apply Nat.eq_of_testBit_eq
  intro j
  have hab : a &&& b < 2 ^ k := Nat.and_lt_two_pow a hb
  rw [Nat.testBit_and, Nat.add_comm a, Nat.add_comm b, Nat.add_comm (a &&& b), Nat.testBit_two_pow_mul_add _ ha, Nat.testBit_two_pow_mul_add _ hb, Nat.testBit_two_pow_mul_add _ hab]
  split
  · rw [Nat.testBit_and]
  · rw [Nat.testBit_and]

theorem dval_lt (k : Nat) : ∀ ds : List Nat, dbd k ds → dval k ds < 2 ^ (k * ds.length)
  | [], _ => by simp [dval]
  | d :: ds, h => by
    have h1 := h d (by simp)
    have h2 := dval_lt k ds (fun e he => h e (by simp [he]))
    simp only [dval, List.length_cons]
    have e : 2 ^ (k * (ds.length + 1)) = 2 ^ k * 2 ^ (k * ds.length) := by rw [Nat.mul_add, Nat.mul_one, Nat.add_comm, Nat.pow_add]
    rw [e]
    have : 2 ^ k * (dval k ds + 1) ≤ 2 ^ k * 2 ^ (k * ds.length) := Nat.mul_le_mul_left _ h2
    rw [Nat.mul_add] at this
    omega

theorem dval_and (k : Nat) : ∀ ds es : List Nat, dbd k ds → dbd k es → ds.length = es.length → dval k ds &&& dval k es = dval k (List.zipWith (· &&& ·) ds es)
  | [], [], _, _, _ => by simp [dval]
  | d :: ds, e :: es, h1, h2, hl => by
    simp only [dval, List.zipWith_cons_cons]
    rw [and_cat k d e _ _ (h1 d (by simp)) (h2 e (by simp)), dval_and k ds es (fun x hx => h1 x (by simp [hx])) (fun x hx => h2 x (by simp [hx])) (by simpa using hl)]
  | [], _ :: _, _, _, hl => by simp at hl
  | _ :: _, [], _, _, hl => by simp at hl

theorem dval_shr (k d : Nat) (ds : List Nat) (h : d < 2 ^ k) : dval k (d :: ds) / 2 ^ k = dval k ds := by
  simp only [dval]
  rw [Nat.add_mul_div_left _ _ (Nat.two_pow_pos k), Nat.div_eq_of_lt h, Nat.zero_add]

theorem dval_add (k : Nat) : ∀ ds es : List Nat, ds.length = es.length → dval k ds + dval k es = dval k (List.zipWith (· + ·) ds es)
  | [], [], _ => by simp [dval]
  | d :: ds, e :: es, hl => by
    simp only [dval, List.zipWith_cons_cons]
    rw [← dval_add k ds es (by simpa using hl), Nat.mul_add]
    omega
  | [], _ :: _, hl => by simp at hl
  | _ :: _, [], hl => by simp at hl

/-- Two digits make one. -/
def pairUp (k : Nat) : List Nat → List Nat
  | d :: e :: ds => (d + 2 ^ k * e) :: pairUp k ds
  | _ => []

theorem dval_pair (k : Nat) : ∀ ds : List Nat, ds.length % 2 = 0 → dval k ds = dval (2 * k) (pairUp k ds)
  | [], _ => rfl
  | [_], h => by simp at h
  | d :: e :: ds, h => by
    simp only [dval, pairUp]
    rw [← dval_pair k ds (by simp only [List.length_cons] at h; omega), Nat.mul_add, ← Nat.mul_assoc, ← Nat.pow_add, ← Nat.two_mul, ← Nat.add_assoc]


/-- Pairs of digits, low and high. -/
def pv (k : Nat) (ps : List (Nat × Nat)) : Nat := dval (2 * k) (ps.map fun p => p.1 + 2 ^ k * p.2)
def pbd (k : Nat) (ps : List (Nat × Nat)) : Prop := ∀ p, p ∈ ps → p.1 < 2 ^ k ∧ p.2 < 2 ^ k

theorem pair_lt {k a b : Nat} (ha : a < 2 ^ k) (hb : b < 2 ^ k) : a + 2 ^ k * b < 2 ^ (2 * k) := by
  have e : 2 ^ (2 * k) = 2 ^ k * 2 ^ k := by rw [Nat.two_mul, Nat.pow_add]
  have : 2 ^ k * (b + 1) ≤ 2 ^ k * 2 ^ k := Nat.mul_le_mul_left _ hb
  rw [Nat.mul_add] at this
  omega

theorem low_and {k a b : Nat} (ha : a < 2 ^ k) : (a + 2 ^ k * b) &&& (2 ^ k - 1) = a := by
  rw [Nat.and_two_pow_sub_one_eq_mod, Nat.add_mul_mod_self_left, Nat.mod_eq_of_lt ha]

/-- The mask of the low digits. -/
def lowm (k n : Nat) : Nat := dval (2 * k) (List.replicate n (2 ^ k - 1))

theorem pow_pred_lt (k : Nat) : 2 ^ k - 1 < 2 ^ (2 * k) := by
  have h1 := Nat.two_pow_pos k
  have : 2 ^ k ≤ 2 ^ (2 * k) := Nat.pow_le_pow_right (by decide) (by omega)
  omega

theorem lowm_and (k : Nat) : ∀ ps : List (Nat × Nat), pbd k ps → pv k ps &&& lowm k ps.length = dval (2 * k) (ps.map (·.1)) := by
  intro ps h
  unfold pv lowm
  rw [dval_and (2 * k) _ _ (fun d hd => ?_) (fun d hd => ?_) (by simp)]
  · congr 1
    induction ps with
    | nil => rfl
    | cons p ps ih =>
      simp only [List.map_cons, List.length_cons, List.replicate_succ, List.zipWith_cons_cons]
      rw [low_and (h p (by simp)).1, ih (fun q hq => h q (by simp [hq]))]
  · obtain ⟨p, hp, rfl⟩ := List.mem_map.1 hd
    exact pair_lt (h p hp).1 (h p hp).2
  · rw [List.eq_of_mem_replicate hd]
    exact pow_pred_lt k

/-- The high digits, each with the next low one above it. -/
def shiftp : List (Nat × Nat) → List (Nat × Nat)
  | [] => []
  | [p] => [(p.2, 0)]
  | p :: q :: ps => (p.2, q.1) :: shiftp (q :: ps)

theorem shiftp_len : ∀ ps : List (Nat × Nat), (shiftp ps).length = ps.length
  | [] => rfl
  | [_] => rfl
  | _ :: q :: ps => by simp only [shiftp, List.length_cons]; rw [shiftp_len (q :: ps)]; rfl
theorem shiftp_fst : ∀ ps : List (Nat × Nat), (shiftp ps).map (·.1) = ps.map (·.2)
  | [] => rfl
  | [_] => rfl
  | _ :: q :: ps => by simp only [shiftp, List.map_cons]; rw [shiftp_fst (q :: ps)]; rfl
theorem shiftp_bd (k : Nat) : ∀ ps : List (Nat × Nat), pbd k ps → pbd k (shiftp ps)
  | [], _ => by intro p hp; cases hp
  | [p], h => by
    intro q hq
    simp only [shiftp, List.mem_singleton] at hq
    subst hq
    exact ⟨(h p (by simp)).2, Nat.two_pow_pos k⟩
  | p :: q :: ps, h => by
    intro r hr
    simp only [shiftp, List.mem_cons] at hr
    rcases hr with rfl | hr
    · exact ⟨(h p (by simp)).2, (h q (by simp)).1⟩
    · exact shiftp_bd k (q :: ps) (fun x hx => h x (by simp [hx])) r (by simpa [shiftp] using hr)

theorem pv_shift (k : Nat) : ∀ ps : List (Nat × Nat), pbd k ps → pv k ps / 2 ^ k = pv k (shiftp ps)
  | [], _ => by simp [pv, dval, shiftp]
  | [p], h => by
    have h1 := (h p (by simp)).1
    simp only [pv, shiftp, List.map_cons, List.map_nil, dval, Nat.mul_zero, Nat.add_zero]
    rw [Nat.add_mul_div_left _ _ (Nat.two_pow_pos k), Nat.div_eq_of_lt h1, Nat.zero_add]
  | p :: q :: ps, h => by
    have h1 := (h p (by simp)).1
    have ih := pv_shift k (q :: ps) (fun x hx => h x (by simp [hx]))
    have hq := (h q (by simp)).1
    have e : 2 ^ (2 * k) = 2 ^ k * 2 ^ k := by rw [Nat.two_mul, Nat.pow_add]
    show (p.1 + 2 ^ k * p.2 + 2 ^ (2 * k) * pv k (q :: ps)) / 2 ^ k = p.2 + 2 ^ k * q.1 + 2 ^ (2 * k) * pv k (shiftp (q :: ps))
    rw [← ih, e, Nat.mul_assoc, Nat.add_assoc, ← Nat.mul_add, Nat.add_mul_div_left _ _ (Nat.two_pow_pos k), Nat.div_eq_of_lt h1, Nat.zero_add, Nat.add_assoc]
    congr 1
    have e2 : pv k (q :: ps) = q.1 + 2 ^ k * (pv k (q :: ps) / 2 ^ k) := by
      have hm : pv k (q :: ps) % 2 ^ k = q.1 := by
        show (q.1 + 2 ^ k * q.2 + 2 ^ (2 * k) * _) % 2 ^ k = q.1
        rw [e, Nat.mul_assoc, Nat.add_assoc, ← Nat.mul_add, Nat.add_mul_mod_self_left, Nat.mod_eq_of_lt hq]
      have := Nat.mod_add_div (pv k (q :: ps)) (2 ^ k)
      rw [hm] at this
      exact this.symm
    conv => lhs; rw [e2]
    rw [Nat.mul_add, Nat.mul_assoc]

theorem high_and (k : Nat) (ps : List (Nat × Nat)) (h : pbd k ps) : (pv k ps / 2 ^ k) &&& lowm k ps.length = dval (2 * k) (ps.map (·.2)) := by
  rw [pv_shift k ps h]
  have := lowm_and k (shiftp ps) (shiftp_bd k ps h)
  rw [shiftp_len, shiftp_fst] at this
  exact this

/-- The sums of the two digits of each pair. -/
theorem swar (k : Nat) (ps : List (Nat × Nat)) (h : pbd k ps) : ((pv k ps / 2 ^ k) &&& lowm k ps.length) + (pv k ps &&& lowm k ps.length) = dval (2 * k) (ps.map fun p => p.1 + p.2) := by
  rw [high_and k ps h, lowm_and k ps h, dval_add _ _ _ (by simp)]
  congr 1
  induction ps with
  | nil => rfl
  | cons p ps ih =>
    simp only [List.map_cons, List.zipWith_cons_cons]
    rw [ih (fun q hq => h q (by simp [hq])), Nat.add_comm]

theorem add_len (ps qs : List (Nat × Nat)) : (List.zipWith (fun p q => (p.1 + q.1, p.2 + q.2)) ps qs).length = min ps.length qs.length := by simp

/-- The other form: the sum first, then the mask; no digit overflows. -/
theorem swar' (k : Nat) (ps : List (Nat × Nat)) (h : pbd k ps) (hs : ∀ p q, p ∈ ps → q ∈ shiftp ps → p.1 + q.1 < 2 ^ k ∧ p.2 + q.2 < 2 ^ k) :
    (pv k ps / 2 ^ k + pv k ps) &&& lowm k ps.length = dval (2 * k) (ps.map fun p => p.1 + p.2) := by
  rw [pv_shift k ps h]
  have e : pv k (shiftp ps) + pv k ps = pv k (List.zipWith (fun p q => (p.1 + q.1, p.2 + q.2)) ps (shiftp ps)) := by
    unfold pv
    rw [dval_add _ _ _ (by rw [List.length_map, List.length_map, shiftp_len])]
    congr 1
    have hl : (shiftp ps).length = ps.length := shiftp_len ps
    generalize shiftp ps = qs at hl
    clear h hs
    induction ps generalizing qs with
    | nil => cases qs with
      | nil => rfl
      | cons _ _ => simp at hl
    | cons p ps ih => cases qs with
      | nil => simp at hl
      | cons q qs =>
        simp only [List.map_cons, List.zipWith_cons_cons]
        rw [ih qs (by simpa using hl), Nat.mul_add]
        congr 1
        omega
  rw [e]
  have hb : pbd k (List.zipWith (fun p q => (p.1 + q.1, p.2 + q.2)) ps (shiftp ps)) := by
    intro r hr
    have key : ∀ (as bs : List (Nat × Nat)), r ∈ List.zipWith (fun p q => (p.1 + q.1, p.2 + q.2)) as bs → ∃ p q, p ∈ as ∧ q ∈ bs ∧ r = (p.1 + q.1, p.2 + q.2) := by
      intro as
      induction as with
      | nil => intro bs h; simp at h
      | cons a as ih => intro bs h; cases bs with
        | nil => simp at h
        | cons b bs =>
          simp only [List.zipWith_cons_cons, List.mem_cons] at h
          rcases h with rfl | h
          · exact ⟨a, b, by simp, by simp, rfl⟩
          · obtain ⟨p, q, h1, h2, h3⟩ := ih bs h
            exact ⟨p, q, by simp [h1], by simp [h2], h3⟩
    obtain ⟨p, q, h1, h2, rfl⟩ := key _ _ hr
    exact hs p q h1 h2
  have hl : (List.zipWith (fun p q : Nat × Nat => (p.1 + q.1, p.2 + q.2)) ps (shiftp ps)).length = ps.length := by rw [add_len, shiftp_len, Nat.min_self]
  have := lowm_and k _ hb
  rw [hl] at this
  rw [this]
  congr 1
  have e3 : ∀ (as bs : List (Nat × Nat)), as.length = bs.length → (List.zipWith (fun p q : Nat × Nat => (p.1 + q.1, p.2 + q.2)) as bs).map (·.1) = List.zipWith (· + ·) (as.map (·.1)) (bs.map (·.1)) := by
    intro as
    induction as with
    | nil => intro bs h; cases bs with
      | nil => rfl
      | cons _ _ => simp at h
    | cons a as ih => intro bs h; cases bs with
      | nil => simp at h
      | cons b bs => simp only [List.zipWith_cons_cons, List.map_cons]; rw [ih bs (by simpa using h)]
  rw [e3 _ _ (by rw [shiftp_len]), shiftp_fst]
  clear h hs e hb hl this e3
  induction ps with
  | nil => rfl
  | cons p ps ih => simp only [List.map_cons, List.zipWith_cons_cons]; rw [ih]

end Go.E
