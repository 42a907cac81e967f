/-
  THE ENGINE, 3: regions. One walk in one order serves every order that the tape may draw: what only reads is taken as early as one likes; what acts comes up alone.
-/
import Derived.Test.YtbolefkhmfbnlaaEng2
import Derived.StillTail
namespace Go.E
open Go.RowKit

/-- It only reads. -/
def qk : Op → Bool
  | .move _ | .assign _ | .pick .. | .load .. | .nilCheck _ | .binOp .. | .unOp .. | .convert .. | .makeFunc .. | .fieldAddr .. | .indexAddr .. | .extract .. | .build .. | .slice .. => true
  | .call c => (match c.callee with | .builtin .len | .builtin .min | .builtin .max => true | _ => false)
  | _ => false

def Lx (P : Program) (ops : Array Oper) (Q : Exit → Act → World → Prop) (md : Option (World → Prop)) (K : Act → World → Prop) : List Oper → Act → World → Prop
  | [], a, w => K a w
  | o :: l, a, w =>
    if Region.wanted o (yielded ops a.tmps) = true then
      (match md with
      | none => o.wp P a w (Lx P ops Q md K l) Q
      | some S => if qk o.op = true then ∃ v, (∀ w', S w' → (execOp a.eval o).run P w' = .ok (.value v) w') ∧ Lx P ops Q md K l (a.put o.dst v) w
          else o.wp P a w (fun a' w' => S w' ∧ Lx P ops Q md K l a' w') Q)
    else Lx P ops Q md K l (a.put o.dst undef) w

section
variable {P : Program} {ops : Array Oper} {Q : Exit → Act → World → Prop}

theorem wpList_of_Lx : ∀ (l : List Oper) (tl : List Oper) (a : Act) (w : World), Lx P ops Q none (fun a w => wpList P ops Q tl a w) l a w → wpList P ops Q (l ++ tl) a w
  | [], _, _, _, h => h
  | o :: l, tl, a, w, h => by
    simp only [Lx] at h
    simp only [List.cons_append, wpList]
    split at h
    · rename_i hw
      rw [if_pos hw]
      exact .inl (Oper.wp_mono (fun a w => wpList_of_Lx l tl a w) h)
    · rename_i hw
      rw [if_neg hw]
      exact wpList_of_Lx l tl _ _ h

/-! ### Any order -/

def wpH (P : Program) (ops : Array Oper) (Q : Exit → Act → World → Prop) (S : World → Prop) (n : Nat) (L : Array Bool → Act → World → Prop) : Nat → Array Bool → Act → World → Prop
  | 0, listed, a, w => L listed a w
  | f + 1, listed, a, w => Region.ready .any ops listed ≠ [] ∧
      ∀ i ∈ Region.ready .any ops listed, i < n ∧ wpOp P ops Q i (fun a' w' => S w' ∧ wpH P ops Q S n L f (listed.setIfInBounds i true) a' w') a w

variable {S : World → Prop} {n : Nat} {L : Array Bool → Act → World → Prop}

theorem wpAny_of_wpH {g : Nat} (hL : ∀ listed a w, L listed a w → wpAny P .any ops Q g listed a w) :
    ∀ (f : Nat) (listed : Array Bool) (a : Act) (w : World), wpH P ops Q S n L f listed a w → wpAny P .any ops Q (f + g) listed a w
  | 0, listed, a, w, h => by rw [Nat.zero_add]; exact hL _ _ _ h
  | f + 1, listed, a, w, h => by
    rw [show f + 1 + g = (f + g) + 1 by omega]
    exact ⟨fun h0 => absurd h0 h.1, fun i hi => wpOp_mono (fun a' w' h' => wpAny_of_wpH hL f _ a' w' h'.2) (h.2 i hi).2⟩

/-- While something ahead of n is not listed, nothing from n on may come up. -/
def FrontOnly (ops : Array Oper) (n : Nat) : Prop :=
  ∀ listed, HeadInv .any ops n listed → (∃ i, i < n ∧ listed.getD i true = false) → ∀ t ∈ Region.ready .any ops listed, t < n

theorem wpH_first {i : Nat} {oi : Oper} {v : Value} (hi : ops[i]? = some oi) (hsel : ∀ (j : Nat) (o : Oper) cs b, ops[j]? = some o → o.op ≠ .select cs b)
    (hfo : FrontOnly ops n) (hin : i < n) (hdone : ∀ listed a w, L listed a w → ∀ j ∈ Region.ready .any ops listed, n ≤ j) (hQ : ∀ c a w, ¬ Q (.panic c) a w) :
    ∀ (f : Nat) (listed : Array Bool) (a : Act) (w : World), HeadInv .any ops n listed →
      (∀ j oj, ops[j]? = some oj → j ≠ i → listed.getD j true = false → (∀ e ∈ oj.after, Region.binds .any e = true → e.on ≠ i) → oi.apart ops oj = true) →
      i ∈ Region.ready .any ops listed → YieldsIf P ops S oi v a → S w →
      wpH P ops Q S n L f (listed.setIfInBounds i true) (a.put oi.dst v) w → wpH P ops Q S n L (f + 1) listed a w := by
  intro f
  induction f with
  | zero =>
    intro listed a w inv _ hr hy hS H
    have hun := (mem_ready.1 hr).1
    refine ⟨fun h => (by rw [h] at hr; cases hr), fun j hj => ?_⟩
    have hjn : j < n := hfo listed inv ⟨i, hin, hun⟩ j hj
    refine ⟨hjn, ?_⟩
    by_cases hji : j = i
    · subst hji; exact hy.wpOp hi hS ⟨hS, H⟩
    · have := hdone _ _ _ H j (ready_mono hj hji)
      omega
  | succ f ih =>
    intro listed a w inv hfree hr hy hS H
    have hun := (mem_ready.1 hr).1
    refine ⟨fun h => (by rw [h] at hr; cases hr), fun j hj => ?_⟩
    have hjn : j < n := hfo listed inv ⟨i, hin, hun⟩ j hj
    refine ⟨hjn, ?_⟩
    by_cases hji : j = i
    · subst hji; exact hy.wpOp hi hS ⟨hS, H⟩
    · have h1 := (H.2 j (ready_mono hj hji)).2
      obtain ⟨hjun, oj, hoj, hall⟩ := mem_ready.1 hj
      have hnot : ∀ e ∈ oj.after, Region.binds .any e = true → e.on ≠ i := fun e he hb heq => by
        have h1 := hall e he hb
        rw [heq, getD_both hun] at h1
        cases h1
      have h2 := wpOp_putIf hoj (hfree j oj hoj hji hjun hnot) (fun cs b => hsel i oi cs b hi) (fun cs b => hsel j oj cs b hoj) (fun c a w h => absurd h (hQ _ _ _)) hy h1
      have hfree' : ∀ k ok, ops[k]? = some ok → k ≠ i → (listed.setIfInBounds j true).getD k true = false →
          (∀ e ∈ ok.after, Region.binds .any e = true → e.on ≠ i) → oi.apart ops ok = true := fun k ok hk hki hun' hno => by
        refine hfree k ok hk hki ?_ hno
        by_cases hjk : j = k
        · subst hjk; exact hjun
        · rw [getD_set_ne true hjk] at hun'; exact hun'
      refine wpOp_mono (fun a' w' h3 => ⟨h3.2.1, ih (listed.setIfInBounds j true) a' w' (inv.set hj hjn) hfree' (ready_mono hr (Ne.symm hji)) h3.1 h3.2.1 ?_⟩) h2
      rw [Array.setIfInBounds_comm _ _ hji]
      exact h3.2.2

def permB (ops : Array Oper) (n : Nat) : List Nat → Array Bool → Bool
  | [], listed => Region.seqB .any ops (ops.size - n) n listed
  | i :: σ, listed => Nat.blt i n &&
      (match ops[i]? with
      | some o => if qk o.op = true then (Region.ready .any ops listed).contains i && Region.free .any ops listed i else decide (Region.ready .any ops listed = [i])
      | none => false) && permB ops n σ (listed.setIfInBounds i true)

def drawB (ops : Array Oper) (n : Nat) (σ : List Nat) : Bool :=
  Region.noSelect ops && (Nat.beq n ops.size || (Nat.blt n ops.size && Region.sinkB .any ops n && Region.chainB .any ops n)) && Nat.beq σ.length n && permB ops n σ (Array.replicate ops.size false)

theorem wpH_of_Lx (hsel : Region.noSelect ops = true) (hfo : FrontOnly ops n) (hQ : ∀ c a w, ¬ Q (.panic c) a w) {K : Act → World → Prop} :
    ∀ (σ : List Nat) (listed : Array Bool) (a : Act) (w : World), permB ops n σ listed = true → HeadInv .any ops n listed → S w →
      Lx P ops Q (some S) K (σ.map fun i => ops.getD i default) a w →
      wpH P ops Q S n (fun listed' a' w' => Region.seqB .any ops (ops.size - n) n listed' = true ∧ K a' w') σ.length listed a w
  | [], listed, a, w, hB, _, _, h => ⟨hB, h⟩
  | i :: σ, listed, a, w, hB, inv, hS, h => by
    simp only [permB, Bool.and_eq_true] at hB
    obtain ⟨⟨hin, hi⟩, hB'⟩ := hB
    have hin' : i < n := by simpa [Nat.blt_eq] using hin
    split at hi
    case h_2 => cases hi
    case h_1 o ho =>
    have hgo : ops.getD i default = o := by simp [Array.getD, (Array.getElem?_eq_some_iff.1 ho).1, (Array.getElem?_eq_some_iff.1 ho).2]
    simp only [List.map_cons, hgo, Lx] at h
    by_cases hq : qk o.op = true
    · rw [if_pos hq] at hi
      simp only [Bool.and_eq_true] at hi
      have hr : i ∈ Region.ready .any ops listed := by simpa using hi.1
      have hfree := Region.free_spec ho hi.2
      have key : ∃ v, YieldsIf P ops S o v a ∧ Lx P ops Q (some S) K (σ.map fun i => ops.getD i default) (a.put o.dst v) w := by
        by_cases hw : Region.wanted o (yielded ops a.tmps) = true
        · rw [if_pos hw, if_pos hq] at h
          obtain ⟨v, hv, hl⟩ := h
          exact ⟨v, .inl ⟨hw, hv⟩, hl⟩
        · rw [if_neg hw] at h
          exact ⟨undef, .inr ⟨by simpa using hw, rfl⟩, h⟩
      obtain ⟨v, hy, hl⟩ := key
      exact wpH_first ho (Region.noSelect_spec hsel) hfo hin' (fun listed' a' w' hL => seqB_ready hL.1) hQ σ.length listed a w inv hfree hr hy hS
        (wpH_of_Lx hsel hfo hQ σ _ _ _ hB' (inv.set hr hin') hS hl)
    · rw [if_neg hq] at hi
      have hr : Region.ready .any ops listed = [i] := by simpa using hi
      have hmem : i ∈ Region.ready .any ops listed := by rw [hr]; simp
      refine ⟨by rw [hr]; simp, fun j hj => ?_⟩
      rw [hr] at hj
      obtain rfl : j = i := by simpa using hj
      refine ⟨hin', ?_⟩
      unfold wpOp
      simp only [ho]
      by_cases hw : Region.wanted o (yielded ops a.tmps) = true
      · rw [if_pos hw, if_neg hq] at h
        rw [if_pos hw]
        exact .inl (Oper.wp_mono (fun a' w' h' => ⟨h'.1, wpH_of_Lx hsel hfo hQ σ _ _ _ hB' (inv.set hmem hin') h'.1 h'.2⟩) h)
      · rw [if_neg hw] at h
        rw [if_neg hw]
        exact ⟨hS, wpH_of_Lx hsel hfo hQ σ _ _ _ hB' (inv.set hmem hin') hS h⟩

theorem wpAny_perm {a : Act} {w : World} {l : List Oper} (n : Nat) (σ : List Nat) (hB : drawB l.toArray n σ = true)
    (hQ : ∀ c a w, ¬ Q (.panic c) a w) (hS : S w.drew)
    (h : Lx P l.toArray Q (some S) (fun a w => wpList P l.toArray Q (l.drop n) a w) (σ.map fun i => l.toArray.getD i default) a w.drew) : wpAny P .any l.toArray Q l.toArray.size (Array.replicate l.toArray.size false) a w.drew := by
  simp only [drawB, Bool.and_eq_true, Bool.or_eq_true] at hB
  obtain ⟨⟨⟨hsel, htail⟩, hlen⟩, hperm⟩ := hB
  have hlen' : σ.length = n := Nat.eq_of_beq_eq_true hlen
  have hns : n ≤ l.toArray.size := by
    rcases htail with h | h
    · exact Nat.le_of_eq (Nat.eq_of_beq_eq_true h)
    · have := h.1.1
      simp [Nat.blt_eq] at this
      simpa using Nat.le_of_lt this
  have hfo : FrontOnly l.toArray n := by
    intro listed inv hex t ht
    rcases htail with h | ⟨⟨h1, h2⟩, h3⟩
    · obtain ⟨_, ot, hot, _⟩ := mem_ready.1 ht
      have := (Array.getElem?_eq_some_iff.1 hot).1
      rw [Nat.eq_of_beq_eq_true h]; exact this
    · obtain ⟨i, hi, hun⟩ := hex
      have hlt : n < l.toArray.size := by simpa [Nat.blt_eq] using h1
      rcases Nat.lt_or_ge t n with h | h
      · exact h
      · exact absurd ht (tail_waits h2 h3 hlt inv _ i rfl hi hun t h)
  have inv0 : HeadInv .any l.toArray n (Array.replicate l.toArray.size false) :=
    ⟨by simp, fun j oj _ hl => (by rw [getD_replicate_false] at hl; cases hl), fun t _ ht => getD_in (by simpa using ht) (getD_replicate_false _ _)⟩
  have H := wpH_of_Lx hsel hfo hQ σ _ a w.drew hperm inv0 hS h
  have := wpAny_of_wpH (g := l.toArray.size - n) (fun listed a' w' hL => by
    have := wpAny_of_seq (md := .any) (Q' := Q) (l.drop n) n listed a' w' (fun j => by simp [List.getElem?_drop]) (by simpa using hL.1) hL.2
    simpa using this) _ _ _ _ H
  rw [hlen', show n + (l.toArray.size - n) = l.toArray.size by omega] at this
  exact this

theorem wp_region_perm {id : Nat} {a : Act} {w : World} {l : List Oper} (n : Nat) (σ : List Nat) (hm : P.follows .mixedOrders = true) (hB : drawB l.toArray n σ = true)
    (hQ : ∀ c a w, ¬ Q (.panic c) a w) (hS : S w.drew)
    (h : Lx P l.toArray Q (some S) (fun a w => wpList P l.toArray Q (l.drop n) a w) (σ.map fun i => l.toArray.getD i default) a w.drew) : (Code.region id l.toArray true).wp P Q a w :=
  wp_region_any hm (wpAny_perm n σ hB hQ hS h)

end

/-! ### Orders that meet in no single one -/

inductive OT where
  | fin
  | none
  | run (σ : List Nat) (t : OT)
  | alt (i : Nat) (t r : OT)

def OT.heads : OT → List Nat
  | .alt i _ r => i :: r.heads
  | _ => []

def LxT (P : Program) (ops : Array Oper) (Q : Exit → Act → World → Prop) (S : World → Prop) (K : Act → World → Prop) : OT → Act → World → Prop
  | .fin, a, w => K a w
  | .none, _, _ => True
  | .run σ t, a, w => Lx P ops Q (some S) (LxT P ops Q S K t) (σ.map fun i => ops.getD i default) a w
  | .alt i t r, a, w => (if Region.wanted (ops.getD i default) (yielded ops a.tmps) = true then (ops.getD i default).wp P a w (fun a' w' => S w' ∧ LxT P ops Q S K t a' w') Q
      else LxT P ops Q S K t (a.put (ops.getD i default).dst undef) w) ∧ LxT P ops Q S K r a w

def permRun (ops : Array Oper) (n : Nat) (k : Array Bool → Bool) : List Nat → Array Bool → Bool
  | [], listed => k listed
  | i :: σ, listed => Nat.blt i n &&
      (match ops[i]? with
      | some o => if qk o.op = true then (Region.ready .any ops listed).contains i && Region.free .any ops listed i else decide (Region.ready .any ops listed = [i])
      | none => false) && permRun ops n k σ (listed.setIfInBounds i true)

def permT (ops : Array Oper) (n : Nat) : OT → Nat → Bool → Array Bool → Bool
  | .fin, f, b, listed => b && Nat.beq f 0 && Region.seqB .any ops (ops.size - n) n listed
  | .none, _, b, _ => !b
  | .run σ t, f, b, listed => b && Nat.ble σ.length f && permRun ops n (permT ops n t (f - σ.length) true) σ listed
  | .alt i t r, f, b, listed => Nat.blt 0 f && (!b || decide (Region.ready .any ops listed = i :: r.heads)) && Nat.blt i n && (match ops[i]? with | some o => !qk o.op | none => false) &&
      permT ops n t (f - 1) true (listed.setIfInBounds i true) && permT ops n r f false listed

def Sub (l0 listed : Array Bool) : Prop := ∀ i, l0.getD i false = true → listed.getD i false = true
theorem Sub.set {l0 listed : Array Bool} (h : Sub l0 listed) (i : Nat) : Sub l0 (listed.setIfInBounds i true) := fun j hj => getD_set_true (h j hj)

def FrontFrom (ops : Array Oper) (n : Nat) (l0 : Array Bool) : Prop :=
  ∀ listed, HeadInv .any ops n listed → Sub l0 listed → (∃ i, i < n ∧ listed.getD i true = false) → ∀ t ∈ Region.ready .any ops listed, t < n

section
variable {P : Program} {ops : Array Oper} {Q : Exit → Act → World → Prop} {S : World → Prop} {n : Nat} {L : Array Bool → Act → World → Prop} {l0 : Array Bool}

theorem wpH_first' {i : Nat} {oi : Oper} {v : Value} (hi : ops[i]? = some oi) (hsel : ∀ (j : Nat) (o : Oper) cs b, ops[j]? = some o → o.op ≠ .select cs b)
    (hfo : FrontFrom ops n l0) (hin : i < n) (hdone : ∀ listed a w, L listed a w → ∀ j ∈ Region.ready .any ops listed, n ≤ j) (hQ : ∀ c a w, ¬ Q (.panic c) a w) :
    ∀ (f : Nat) (listed : Array Bool) (a : Act) (w : World), HeadInv .any ops n listed → Sub l0 listed →
      (∀ j oj, ops[j]? = some oj → j ≠ i → listed.getD j true = false → (∀ e ∈ oj.after, Region.binds .any e = true → e.on ≠ i) → oi.apart ops oj = true) →
      i ∈ Region.ready .any ops listed → YieldsIf P ops S oi v a → S w →
      wpH P ops Q S n L f (listed.setIfInBounds i true) (a.put oi.dst v) w → wpH P ops Q S n L (f + 1) listed a w := by
  intro f
  induction f with
  | zero =>
    intro listed a w inv hsub _ hr hy hS H
    have hun := (mem_ready.1 hr).1
    refine ⟨fun h => (by rw [h] at hr; cases hr), fun j hj => ?_⟩
    have hjn : j < n := hfo listed inv hsub ⟨i, hin, hun⟩ j hj
    refine ⟨hjn, ?_⟩
    by_cases hji : j = i
    · subst hji; exact hy.wpOp hi hS ⟨hS, H⟩
    · have := hdone _ _ _ H j (ready_mono hj hji)
      omega
  | succ f ih =>
    intro listed a w inv hsub hfree hr hy hS H
    have hun := (mem_ready.1 hr).1
    refine ⟨fun h => (by rw [h] at hr; cases hr), fun j hj => ?_⟩
    have hjn : j < n := hfo listed inv hsub ⟨i, hin, hun⟩ j hj
    refine ⟨hjn, ?_⟩
    by_cases hji : j = i
    · subst hji; exact hy.wpOp hi hS ⟨hS, H⟩
    · have h1 := (H.2 j (ready_mono hj hji)).2
      obtain ⟨hjun, oj, hoj, hall⟩ := mem_ready.1 hj
      have hnot : ∀ e ∈ oj.after, Region.binds .any e = true → e.on ≠ i := fun e he hb heq => by
        have h1 := hall e he hb
        rw [heq, getD_both hun] at h1
        cases h1
      have h2 := wpOp_putIf hoj (hfree j oj hoj hji hjun hnot) (fun cs b => hsel i oi cs b hi) (fun cs b => hsel j oj cs b hoj) (fun c a w h => absurd h (hQ _ _ _)) hy h1
      have hfree' : ∀ k ok, ops[k]? = some ok → k ≠ i → (listed.setIfInBounds j true).getD k true = false →
          (∀ e ∈ ok.after, Region.binds .any e = true → e.on ≠ i) → oi.apart ops ok = true := fun k ok hk hki hun' hno => by
        refine hfree k ok hk hki ?_ hno
        by_cases hjk : j = k
        · subst hjk; exact hjun
        · rw [getD_set_ne true hjk] at hun'; exact hun'
      refine wpOp_mono (fun a' w' h3 => ⟨h3.2.1, ih (listed.setIfInBounds j true) a' w' (inv.set hj hjn) (hsub.set j) hfree' (ready_mono hr (Ne.symm hji)) h3.1 h3.2.1 ?_⟩) h2
      rw [Array.setIfInBounds_comm _ _ hji]
      exact h3.2.2

theorem wpH_run (hsel : Region.noSelect ops = true) (hfo : FrontFrom ops n l0) (hdone : ∀ listed a w, L listed a w → ∀ j ∈ Region.ready .any ops listed, n ≤ j) (hQ : ∀ c a w, ¬ Q (.panic c) a w) {K : Act → World → Prop} {k : Array Bool → Bool} {g : Nat}
    (hk : ∀ listed a w, k listed = true → HeadInv .any ops n listed → Sub l0 listed → S w → K a w → wpH P ops Q S n L g listed a w) :
    ∀ (σ : List Nat) (listed : Array Bool) (a : Act) (w : World), permRun ops n k σ listed = true → HeadInv .any ops n listed → Sub l0 listed → S w →
      Lx P ops Q (some S) K (σ.map fun i => ops.getD i default) a w → wpH P ops Q S n L (σ.length + g) listed a w
  | [], listed, a, w, hB, inv, hsub, hS, h => by rw [List.length_nil, Nat.zero_add]; exact hk _ _ _ hB inv hsub hS h
  | i :: σ, listed, a, w, hB, inv, hsub, hS, h => by
    simp only [permRun, Bool.and_eq_true] at hB
    obtain ⟨⟨hin, hi⟩, hB'⟩ := hB
    have hin' : i < n := by simpa [Nat.blt_eq] using hin
    split at hi
    case h_2 => cases hi
    case h_1 o ho =>
    have hgo : ops.getD i default = o := by simp [Array.getD, (Array.getElem?_eq_some_iff.1 ho).1, (Array.getElem?_eq_some_iff.1 ho).2]
    simp only [List.map_cons, hgo, Lx] at h
    have hlen : (i :: σ).length + g = (σ.length + g) + 1 := by simp; omega
    rw [hlen]
    by_cases hq : qk o.op = true
    · rw [if_pos hq] at hi
      simp only [Bool.and_eq_true] at hi
      have hr : i ∈ Region.ready .any ops listed := by simpa using hi.1
      have hfree := Region.free_spec ho hi.2
      have key : ∃ v, YieldsIf P ops S o v a ∧ Lx P ops Q (some S) K (σ.map fun i => ops.getD i default) (a.put o.dst v) w := by
        by_cases hw : Region.wanted o (yielded ops a.tmps) = true
        · rw [if_pos hw, if_pos hq] at h
          obtain ⟨v, hv, hl⟩ := h
          exact ⟨v, .inl ⟨hw, hv⟩, hl⟩
        · rw [if_neg hw] at h
          exact ⟨undef, .inr ⟨by simpa using hw, rfl⟩, h⟩
      obtain ⟨v, hy, hl⟩ := key
      exact wpH_first' ho (Region.noSelect_spec hsel) hfo hin' hdone hQ _ listed a w inv hsub hfree hr hy hS
        (wpH_run hsel hfo hdone hQ hk σ _ _ _ hB' (inv.set hr hin') (hsub.set i) hS hl)
    · rw [if_neg hq] at hi
      have hr : Region.ready .any ops listed = [i] := by simpa using hi
      have hmem : i ∈ Region.ready .any ops listed := by rw [hr]; simp
      refine ⟨by rw [hr]; simp, fun j hj => ?_⟩
      rw [hr] at hj
      obtain rfl : j = i := by simpa using hj
      refine ⟨hin', ?_⟩
      unfold wpOp
      simp only [ho]
      by_cases hw : Region.wanted o (yielded ops a.tmps) = true
      · rw [if_pos hw, if_neg hq] at h
        rw [if_pos hw]
        exact .inl (Oper.wp_mono (fun a' w' h' => ⟨h'.1, wpH_run hsel hfo hdone hQ hk σ _ _ _ hB' (inv.set hmem hin') (hsub.set j) h'.1 h'.2⟩) h)
      · rw [if_neg hw] at h
        rw [if_neg hw]
        exact ⟨hS, wpH_run hsel hfo hdone hQ hk σ _ _ _ hB' (inv.set hmem hin') (hsub.set j) hS h⟩

theorem wpH_of_LxT (hsel : Region.noSelect ops = true) (hfo : FrontFrom ops n l0) (hQ : ∀ c a w, ¬ Q (.panic c) a w) {K : Act → World → Prop} :
    ∀ (t : OT) (f : Nat) (b : Bool) (listed : Array Bool) (a : Act) (w : World), permT ops n t f b listed = true → HeadInv .any ops n listed → Sub l0 listed → S w → LxT P ops Q S K t a w →
      (b = true → wpH P ops Q S n (fun listed' a' w' => Region.seqB .any ops (ops.size - n) n listed' = true ∧ K a' w') f listed a w) ∧
      (b = false → ∀ i ∈ t.heads, i ∈ Region.ready .any ops listed → i < n ∧ wpOp P ops Q i (fun a' w' => S w' ∧ wpH P ops Q S n (fun listed' a' w' => Region.seqB .any ops (ops.size - n) n listed' = true ∧ K a' w') (f - 1) (listed.setIfInBounds i true) a' w') a w)
  | .fin, f, b, listed, a, w, hB, _, _, _, h => by
    simp only [permT, Bool.and_eq_true] at hB
    obtain ⟨⟨h1, h2⟩, h3⟩ := hB
    have h2 := Nat.eq_of_beq_eq_true h2
    subst h2
    exact ⟨fun _ => ⟨h3, h⟩, fun hb => by rw [hb] at h1; cases h1⟩
  | .none, f, b, listed, a, w, hB, _, _, _, h => ⟨fun hb => by simp [permT, hb] at hB, fun _ i hi => by simp [OT.heads] at hi⟩
  | .run σ t, f, b, listed, a, w, hB, inv, hsub, hS, h => by
    simp only [permT, Bool.and_eq_true] at hB
    obtain ⟨⟨h1, h2⟩, h3⟩ := hB
    have h2 := Nat.le_of_ble_eq_true h2
    refine ⟨fun _ => ?_, fun hb => by rw [hb] at h1; cases h1⟩
    have := wpH_run (g := f - σ.length) hsel hfo (fun listed' a' w' hL => seqB_ready hL.1) hQ (fun listed a w hk inv hsub hS hK => (wpH_of_LxT hsel hfo hQ t (f - σ.length) true listed a w hk inv hsub hS hK).1 rfl) σ listed a w h3 inv hsub hS h
    rw [show σ.length + (f - σ.length) = f by omega] at this
    exact this
  | .alt i t r, f, b, listed, a, w, hB, inv, hsub, hS, h => by
    simp only [permT, Bool.and_eq_true] at hB
    obtain ⟨⟨⟨⟨⟨hf, hrd⟩, hin⟩, hnq⟩, ht⟩, hr⟩ := hB
    have hin' : i < n := by simpa [Nat.blt_eq] using hin
    have hf' : 0 < f := by simpa [Nat.blt_eq] using hf
    split at hnq
    case h_2 => cases hnq
    case h_1 o ho =>
    have hgo : ops.getD i default = o := by simp [Array.getD, (Array.getElem?_eq_some_iff.1 ho).1, (Array.getElem?_eq_some_iff.1 ho).2]
    simp only [LxT, hgo] at h
    obtain ⟨h1, h2⟩ := h
    have hrest := (wpH_of_LxT hsel hfo hQ r f false listed a w hr inv hsub hS h2).2 rfl
    have hone : i ∈ Region.ready .any ops listed → wpOp P ops Q i (fun a' w' => S w' ∧ wpH P ops Q S n (fun listed' a' w' => Region.seqB .any ops (ops.size - n) n listed' = true ∧ K a' w') (f - 1) (listed.setIfInBounds i true) a' w') a w := fun hmem => by
      unfold wpOp
      simp only [ho]
      by_cases hw : Region.wanted o (yielded ops a.tmps) = true
      · rw [if_pos hw] at h1
        rw [if_pos hw]
        exact .inl (Oper.wp_mono (fun a' w' h' => ⟨h'.1, (wpH_of_LxT hsel hfo hQ t (f - 1) true _ a' w' ht (inv.set hmem hin') (hsub.set i) h'.1 h'.2).1 rfl⟩) h1)
      · rw [if_neg hw] at h1
        rw [if_neg hw]
        exact ⟨hS, (wpH_of_LxT hsel hfo hQ t (f - 1) true _ _ w ht (inv.set hmem hin') (hsub.set i) hS h1).1 rfl⟩
    have hall : ∀ j ∈ (OT.alt i t r).heads, j ∈ Region.ready .any ops listed → j < n ∧ wpOp P ops Q j (fun a' w' => S w' ∧ wpH P ops Q S n (fun listed' a' w' => Region.seqB .any ops (ops.size - n) n listed' = true ∧ K a' w') (f - 1) (listed.setIfInBounds j true) a' w') a w := fun j hj hjr => by
      simp only [OT.heads, List.mem_cons] at hj
      rcases hj with rfl | hj
      · exact ⟨hin', hone hjr⟩
      · exact hrest j hj hjr
    refine ⟨fun hb => ?_, fun _ => hall⟩
    subst hb
    simp only [Bool.not_true, Bool.false_or, decide_eq_true_eq] at hrd
    obtain ⟨f, rfl⟩ : ∃ g, f = g + 1 := ⟨f - 1, by omega⟩
    refine ⟨by rw [hrd]; simp, fun j hj => ?_⟩
    have hj2 := hj
    rw [hrd] at hj2
    exact hall j hj2 hj

def sinkFrom (ops : Array Oper) (n : Nat) (l0 : Array Bool) : Bool :=
  (List.range n).all fun i => l0.getD i false || (List.range (n + 1)).any fun j => decide (i < j) && Region.waitsFor .any ops j i

theorem tail_waits' {listed : Array Bool} (hs : sinkFrom ops n l0 = true) (hc : Region.chainB .any ops n = true) (inv : HeadInv .any ops n listed) (hsub : Sub l0 listed) :
    ∀ (d i : Nat), n - i = d → i < n → listed.getD i true = false → ∀ t, n ≤ t → t ∉ Region.ready .any ops listed := by
  intro d
  induction d using Nat.strongRecOn with
  | _ d ih =>
    intro i hd hi hun t ht hr
    obtain ⟨_, ot, hot, hall⟩ := mem_ready.1 hr
    have htlt : t < ops.size := (Array.getElem?_eq_some_iff.1 hot).1
    by_cases htn : t = n
    · subst htn
      have h1 := List.all_eq_true.1 hs i (List.mem_range.2 hi)
      simp only [Bool.or_eq_true] at h1
      rcases h1 with h1 | h1
      · have := hsub i h1
        rw [getD_both hun] at this
        cases this
      obtain ⟨j, hj, hj2⟩ := List.any_eq_true.1 h1
      simp only [Bool.and_eq_true, decide_eq_true_eq] at hj2
      obtain ⟨oj, hoj, e, he, hb, hon⟩ := Region.waitsFor_spec hj2.2
      have hjle : j ≤ t := by have := List.mem_range.1 hj; omega
      by_cases hjt : j = t
      · subst hjt
        have : oj = ot := Option.some.inj (hoj.symm.trans hot)
        subst this
        have h2 := hall e he hb
        rw [hon, getD_both hun] at h2
        cases h2
      · cases hl : listed.getD j false with
        | true =>
          have h2 := inv.closed j oj hoj hl e he hb
          rw [hon, getD_both hun] at h2
          cases h2
        | false =>
          have hjs : j < listed.size := by rw [inv.size]; omega
          exact ih (t - j) (by omega) j rfl (by omega) (getD_in hjs hl) t (Nat.le_refl _) hr
    · have h1 := List.all_eq_true.1 hc t (List.mem_range.2 htlt)
      simp only [Bool.or_eq_true, decide_eq_true_eq] at h1
      rcases h1 with h1 | h1
      · omega
      · obtain ⟨o', ho', e, he, hb, hon⟩ := Region.waitsFor_spec h1
        have : o' = ot := Option.some.inj (ho'.symm.trans hot)
        subst this
        have h2 := hall e he hb
        rw [hon, getD_both (inv.tail (t - 1) (by omega) (by omega))] at h2
        cases h2

/-- What is taken at once. -/
def takeB (ops : Array Oper) (n : Nat) (k : Array Bool → Bool) : List Nat → Array Bool → Bool
  | [], listed => k listed
  | i :: σ, listed => Nat.blt i n && (match ops[i]? with | some o => qk o.op | none => false) && (Region.ready .any ops listed).contains i && Region.free .any ops listed i && takeB ops n k σ (listed.setIfInBounds i true)

theorem wpAny_takes (hsel : Region.noSelect ops = true) (hQ : ∀ c a w, ¬ Q (.panic c) a w) {K : Act → World → Prop} {k : Array Bool → Bool} {g : Nat} {w : World}
    (hk : ∀ listed a, k listed = true → HeadInv .any ops n listed → K a w → wpAny P .any ops Q g listed a w) :
    ∀ (σ : List Nat) (listed : Array Bool) (a : Act), takeB ops n k σ listed = true → HeadInv .any ops n listed → Lx P ops Q (some fun _ => True) K (σ.map fun i => ops.getD i default) a w → wpAny P .any ops Q (σ.length + g) listed a w
  | [], listed, a, hB, inv, h => by rw [List.length_nil, Nat.zero_add]; exact hk _ _ hB inv h
  | i :: σ, listed, a, hB, inv, h => by
    simp only [takeB, Bool.and_eq_true] at hB
    obtain ⟨⟨⟨⟨hin, hq⟩, hr⟩, hfr⟩, hB'⟩ := hB
    have hin' : i < n := by simpa [Nat.blt_eq] using hin
    split at hq
    case h_2 => cases hq
    case h_1 o ho =>
    have hgo : ops.getD i default = o := by simp [Array.getD, (Array.getElem?_eq_some_iff.1 ho).1, (Array.getElem?_eq_some_iff.1 ho).2]
    simp only [List.map_cons, hgo, Lx] at h
    have hmem : i ∈ Region.ready .any ops listed := by simpa using hr
    have hlen : (i :: σ).length + g = (σ.length + g) + 1 := by simp; omega
    rw [hlen]
    have key : ∃ v, Yields P ops o v a ∧ Lx P ops Q (some fun _ => True) K (σ.map fun i => ops.getD i default) (a.put o.dst v) w := by
      by_cases hw : Region.wanted o (yielded ops a.tmps) = true
      · rw [if_pos hw, if_pos hq] at h
        obtain ⟨v, hv, hl⟩ := h
        exact ⟨v, .inl ⟨hw, fun w' => hv w' trivial⟩, hl⟩
      · rw [if_neg hw] at h
        exact ⟨undef, .inr ⟨by simpa using hw, rfl⟩, h⟩
    obtain ⟨v, hy, hl⟩ := key
    exact wpAny_take ho hsel hfr hr (fun c a w hh => absurd hh (hQ _ _ _)) hy (wpAny_takes hsel hQ hk σ _ _ hB' (inv.set hmem hin') hl)

def listAll (listed : Array Bool) : List Nat → Array Bool
  | [] => listed
  | i :: σ => listAll (listed.setIfInBounds i true) σ

def planB (ops : Array Oper) (n : Nat) (σ : List Nat) (t : OT) : Bool :=
  Region.noSelect ops && (Nat.beq n ops.size || (Nat.blt n ops.size && sinkFrom ops n (listAll (Array.replicate ops.size false) σ) && Region.chainB .any ops n)) && Nat.ble σ.length n && Nat.ble n ops.size &&
    takeB ops n (fun listed => decide (listed = listAll (Array.replicate ops.size false) σ) && permT ops n t (n - σ.length) true listed) σ (Array.replicate ops.size false)

theorem wpAny_plan {a : Act} {w : World} {l : List Oper} (n : Nat) (σ : List Nat) (t : OT) (hB : planB l.toArray n σ t = true) (hQ : ∀ c a w, ¬ Q (.panic c) a w)
    (h : Lx P l.toArray Q (some fun _ => True) (fun a w => S w ∧ LxT P l.toArray Q S (fun a w => wpList P l.toArray Q (l.drop n) a w) t a w) (σ.map fun i => l.toArray.getD i default) a w.drew) : wpAny P .any l.toArray Q l.toArray.size (Array.replicate l.toArray.size false) a w.drew := by
  simp only [planB, Bool.and_eq_true, Bool.or_eq_true] at hB
  obtain ⟨⟨⟨⟨hsel, htail⟩, hsl⟩, hns⟩, htk⟩ := hB
  have hsl := Nat.le_of_ble_eq_true hsl
  have hns := Nat.le_of_ble_eq_true hns
  have hfo : FrontFrom l.toArray n (listAll (Array.replicate l.toArray.size false) σ) := by
    intro listed inv hsub hex t ht
    rcases htail with h | ⟨⟨h1, h2⟩, h3⟩
    · obtain ⟨_, ot, hot, _⟩ := mem_ready.1 ht
      have := (Array.getElem?_eq_some_iff.1 hot).1
      rw [Nat.eq_of_beq_eq_true h]; exact this
    · obtain ⟨i, hi, hun⟩ := hex
      rcases Nat.lt_or_ge t n with h | h
      · exact h
      · exact absurd ht (tail_waits' h2 h3 inv hsub _ i rfl hi hun t h)
  have inv0 : HeadInv .any l.toArray n (Array.replicate l.toArray.size false) :=
    ⟨by simp, fun j oj _ hl => (by rw [getD_replicate_false] at hl; cases hl), fun t _ ht => getD_in (by simpa using ht) (getD_replicate_false _ _)⟩
  have := wpAny_takes (g := (n - σ.length) + (l.toArray.size - n)) hsel hQ (fun listed a hk inv hK => ?_) σ _ a htk inv0 h
  · rw [show σ.length + ((n - σ.length) + (l.toArray.size - n)) = l.toArray.size by omega] at this
    exact this
  · simp only [Bool.and_eq_true, decide_eq_true_eq] at hk
    obtain ⟨hl, hp⟩ := hk
    subst hl
    have H := (wpH_of_LxT hsel hfo hQ t (n - σ.length) true _ a w.drew hp inv (fun _ h => h) hK.1 hK.2).1 rfl
    have := wpAny_of_wpH (g := l.toArray.size - n) (fun listed a' w' hL => by
      have := wpAny_of_seq (md := .any) (Q' := Q) (l.drop n) n listed a' w' (fun j => by simp [List.getElem?_drop]) (by simpa using hL.1) hL.2
      simpa using this) _ _ _ _ H
    exact this

theorem wp_region_plan {id : Nat} {a : Act} {w : World} {l : List Oper} (n : Nat) (σ : List Nat) (t : OT) (hm : P.follows .mixedOrders = true) (hB : planB l.toArray n σ t = true) (hQ : ∀ c a w, ¬ Q (.panic c) a w)
    (h : Lx P l.toArray Q (some fun _ => True) (fun a w => S w ∧ LxT P l.toArray Q S (fun a w => wpList P l.toArray Q (l.drop n) a w) t a w) (σ.map fun i => l.toArray.getD i default) a w.drew) : (Code.region id l.toArray true).wp P Q a w :=
  wp_region_any hm (wpAny_plan n σ t hB hQ h)
end

/-! ### Classes -/

/-- More memory; nothing that was there has turned. -/
def Ext (w w' : World) : Prop := Below w.heap.size w w'

theorem Ext.refl (w : World) : Ext w w := Below.refl _ _
theorem Ext.trans {a b c : World} (h : Ext a b) (k : Ext b c) : Ext a c := Below.trans h (Below.mono k h.size)
theorem Ext.drew (w : World) : Ext w w.drew := (Below.refl _ _).drew

def Closed (S : World → Prop) : Prop := ∀ w w', S w → Ext w w' → S w'
def MdCl (md : Option (World → Prop)) : Prop := match md with | none => True | some S => Closed S
def MdIn (md : Option (World → Prop)) (w : World) : Prop := match md with | none => True | some S => S w

theorem MdIn.ext {md : Option (World → Prop)} (h : MdCl md) {w w' : World} (hi : MdIn md w) (he : Ext w w') : MdIn md w' := by
  cases md with
  | none => trivial
  | some S => exact h w w' hi he

def WO (P : Program) (n : Nat) (R : Act → World → Prop) (ops : Array Oper) (md : Option (World → Prop)) (l : List Oper) (tl : Act → World → Prop) (k : List KI) (e : Env) (C : World → Prop) : Prop :=
  ∀ a w, Ag a n e → C w → MdIn md w → Lx P ops (wpK P R k) md tl l a w

def gd (ops : Array Oper) (e : Env) (o : Oper) : Option Bool :=
  match o.guard with
  | none => some true
  | some (j, want) => match (ops[j]?).bind (·.dst) with
    | some d => match look e d with
      | some (.bool b) => some (b == want)
      | some (.tuple _) => some false
      | _ => none
    | none => none

theorem gd_ok {ops : Array Oper} {e : Env} {o : Oper} {a : Act} {n : Nat} {b : Bool} (ha : Ag a n e) (h : gd ops e o = some b) : Region.wanted o (yielded ops a.tmps) = b := by
  unfold gd at h
  unfold Region.wanted
  split at h
  · rename_i hg
    rw [hg]; exact Option.some.inj h
  · rename_i j want hg
    rw [hg]
    split at h
    · rename_i d hd
      split at h
      · rename_i c hc
        have := ha.fit _ _ hc
        have hy : yielded ops a.tmps j = some c := by unfold yielded; rw [hd]; simp [this]
        show (yielded ops a.tmps j == some want) = b
        rw [hy]
        simpa using h
      · rename_i hc
        have := ha.fit _ _ hc
        have hy : yielded ops a.tmps j = none := by unfold yielded; rw [hd]; simp [this]
        show (yielded ops a.tmps j == some want) = b
        rw [hy]
        obtain rfl := Option.some.inj h
        rfl
      · cases h
    · cases h

section
variable {P : Program} {n : Nat} {R : Act → World → Prop} {ops : Array Oper} {md : Option (World → Prop)} {l : List Oper} {tl : Act → World → Prop} {k : List KI} {e : Env} {C : World → Prop}

theorem WO.sub {e' : Env} (hs : subL e e') (h : WO P n R ops md l tl k e' C) : WO P n R ops md l tl k e C := fun a w ha hw hm => h a w (ha.sub hs) hw hm
theorem WO.cls {C' : World → Prop} (hs : ∀ w, C w → C' w) (h : WO P n R ops md l tl k e C') : WO P n R ops md l tl k e C := fun a w ha hw hm => h a w ha (hs w hw) hm

theorem WO_end (h : WK P n R k e C) : WO P n R ops md [] (fun a w => wpK P R k .normal a w) k e C := fun a w ha hw _ => (h a w ha hw : wpK P R k .normal a w)

theorem WO_tail {tl : List Oper} (h : WO P n R ops none tl (fun a w => wpK P R k .normal a w) k e C) : WO P n R ops md [] (fun a w => wpList P ops (wpK P R k) tl a w) k e C := fun a w ha hw _ => by
  have := wpList_of_Lx tl [] a w (h a w ha hw trivial)
  show wpList P ops (wpK P R k) tl a w
  simpa using this

theorem WK_region {id : Nat} {l : List Oper} (h : WO P n R l.toArray none l (fun a w => wpK P R k .normal a w) k e C) : WK P n R (.code (.region id l.toArray false) :: k) e C := fun a w ha hw =>
  wp_region_lit (by
    have := wpList_of_Lx l [] a w (h a w ha hw trivial)
    have h2 : wpList P l.toArray (wpK P R k) l a w := by simpa using this
    exact h2)

theorem WK_draw {id : Nat} {l : List Oper} (m : Nat) (σ : List Nat) (hm : P.follows .mixedOrders = true) (hB : drawB l.toArray m σ = true) (hC : Closed C)
    (h : WO P n R l.toArray (some C) (σ.map fun i => l.toArray.getD i default) (fun a w => wpList P l.toArray (wpK P R k) (l.drop m) a w) k e C) : WK P n R (.code (.region id l.toArray true) :: k) e C := fun a w ha hw =>
  have hd : C w.drew := hC w _ hw (Ext.drew w)
  wp_region_perm (S := C) m σ hm hB (wpK_panic k) hd (h a w.drew ha hd hd)

/-- An operation that only reads: one value in every world of the class. -/
theorem WO_quiet {o : Oper} (v : Value) (hg : gd ops e o = some true) (hq : qk o.op = true) (hd : dstOk n o.dst = true)
    (hv : ∀ a, Ag a n e → ∀ w, (md.getD C) w → (execOp a.eval o).run P w = .ok (.value v) w) (h : WO P n R ops md l tl k (setE e o.dst v) C) : WO P n R ops md (o :: l) tl k e C := fun a w ha hw hmd => by
  simp only [Lx]
  rw [if_pos (gd_ok ha hg)]
  have h2 := h (a.put o.dst v) w (ha.put hd v) hw hmd
  cases md with
  | none =>
    have hr := hv a ha w hw
    show Oper.upon P o a _ _ ((execOp a.eval o).run P w)
    rw [hr]
    exact h2
  | some S =>
    show (if qk o.op = true then _ else _)
    rw [if_pos hq]
    exact ⟨v, fun w' hw' => hv a ha w' hw', h2⟩

theorem WO_skip {o : Oper} (hg : gd ops e o = some false) (hd : dstOk n o.dst = true) (h : WO P n R ops md l tl k (setE e o.dst undef) C) : WO P n R ops md (o :: l) tl k e C := fun a w ha hw hmd => by
  simp only [Lx]
  rw [if_neg (by rw [gd_ok ha hg]; simp)]
  exact h (a.put o.dst undef) w (ha.put hd undef) hw hmd

/-- The guard's Bool is decided: both ways. -/
theorem WO_split {d : Nat} {b : Bool} (hb : look e d = some (.bool b)) (ht : b = true → WO P n R ops md l tl k ((d, .bool true) :: e) C) (hf : b = false → WO P n R ops md l tl k ((d, .bool false) :: e) C) :
    WO P n R ops md l tl k e C := fun a w ha hw hmd => by
  have key : ∀ c, b = c → Ag a n ((d, .bool c) :: e) := fun c hc => ⟨ha.df, ha.sz, fun i v hv => by
    simp only [look] at hv
    cases hbe : Nat.beq d i with
    | true =>
      simp only [hbe, cond_true, Option.some.injEq] at hv
      rw [← Nat.eq_of_beq_eq_true hbe, ← hv, ← hc]
      exact ha.fit _ _ hb
    | false =>
      simp only [hbe, cond_false] at hv
      exact ha.fit _ _ hv⟩
  cases b with
  | true => exact ht rfl a w (key true rfl) hw hmd
  | false => exact hf rfl a w (key false rfl) hw hmd

/-- An operation that acts, and yields a value. -/
theorem WO_act {o : Oper} {G : Type} (v : G → Value) (C' : G → World → Prop) (hg : gd ops e o = some true) (hq : qk o.op = false) (hd : dstOk n o.dst = true) (hcl : MdCl md)
    (hrun : ∀ a w, Ag a n e → C w → ∃ g w', (execOp a.eval o).run P w = .ok (.value (v g)) w' ∧ Ext w w' ∧ C' g w')
    (h : ∀ g, WO P n R ops md l tl k (setE e o.dst (v g)) (C' g)) : WO P n R ops md (o :: l) tl k e C := fun a w ha hw hmd => by
  simp only [Lx]
  rw [if_pos (gd_ok ha hg)]
  obtain ⟨g, w', hr, hext, hC⟩ := hrun a w ha hw
  have hmd' := hmd.ext hcl hext
  have h2 := h g (a.put o.dst (v g)) w' (ha.put hd _) hC hmd'
  cases md with
  | none =>
    show Oper.upon P o a _ _ ((execOp a.eval o).run P w)
    rw [hr]
    exact h2
  | some S =>
    show (if qk o.op = true then _ else _)
    rw [if_neg (by rw [hq]; simp)]
    show Oper.upon P o a _ _ ((execOp a.eval o).run P w)
    rw [hr]
    exact ⟨hmd', h2⟩

/-- An operation that writes (outside of what is drawn). -/
theorem WO_write {o : Oper} {G : Type} (v : G → Value) (C' : G → World → Prop) (hg : gd ops e o = some true) (hd : dstOk n o.dst = true)
    (hrun : ∀ a w, Ag a n e → C w → ∃ g w', ((execOp a.eval o).run P w = .ok (.value (v g)) w' ∨ ((execOp a.eval o).run P w = .ok .skip w' ∧ v g = undef)) ∧ C' g w')
    (h : ∀ g, WO P n R ops none l tl k (setE e o.dst (v g)) (C' g)) : WO P n R ops none (o :: l) tl k e C := fun a w ha hw _ => by
  simp only [Lx]
  rw [if_pos (gd_ok ha hg)]
  obtain ⟨g, w', hr, hC⟩ := hrun a w ha hw
  have h2 := h g (a.put o.dst (v g)) w' (ha.put hd _) hC trivial
  show Oper.upon P o a _ _ ((execOp a.eval o).run P w)
  rcases hr with hr | ⟨hr, hv⟩
  · rw [hr]; exact h2
  · rw [hr]; rw [hv] at h2; exact h2

/-- A call. -/
theorem WO_calls {o : Oper} {G : Type} (f : FuncId) (args : Array Value) (v : G → Value) (C' : G → World → Prop) (hg : gd ops e o = some true) (hq : qk o.op = false) (hd : dstOk n o.dst = true) (hcl : MdCl md)
    (hrun : ∀ a w, Ag a n e → C w → (execOp a.eval o).run P w = .ok (.enter f args) w)
    (hcall : ∀ w, C w → Calls P f args w fun e w' => ∃ g, e = .returned (v g) ∧ Ext w w' ∧ C' g w')
    (h : ∀ g, WO P n R ops md l tl k (setE e o.dst (v g)) (C' g)) : WO P n R ops md (o :: l) tl k e C := fun a w ha hw hmd => by
  simp only [Lx]
  rw [if_pos (gd_ok ha hg)]
  have hr := hrun a w ha hw
  have hc := hcall w hw
  cases md with
  | none =>
    show Oper.upon P o a _ _ ((execOp a.eval o).run P w)
    rw [hr]
    refine hc.mono ?_
    rintro e' w' ⟨g, rfl, hext, hC⟩
    exact h g (a.put o.dst (v g)) w' (ha.put hd _) hC trivial
  | some S =>
    show (if qk o.op = true then _ else _)
    rw [if_neg (by rw [hq]; simp)]
    show Oper.upon P o a _ _ ((execOp a.eval o).run P w)
    rw [hr]
    refine hc.mono ?_
    rintro e' w' ⟨g, rfl, hext, hC⟩
    have hmd' := MdIn.ext hcl hmd hext
    exact ⟨hmd', h g (a.put o.dst (v g)) w' (ha.put hd _) hC hmd'⟩

/-! ### Many at a time -/

def pqk : Op → Bool := fun op => qk op

def stepE (tb : Tab) (n : Nat) (ops : Array Oper) (e : Env) (o : Oper) : Option Env :=
  cond (dstOk n o.dst && qk o.op)
    (match gd ops e o with
    | some true => match pev tb e o.op with
      | some v => some (setE e o.dst v)
      | none => none
    | some false => some (setE e o.dst undef)
    | none => none) none

def prun (tb : Tab) (n : Nat) (ops : Array Oper) : Nat → List Oper → Env → Option (Env × List Oper)
  | 0, l, e => some (e, l)
  | _ + 1, [], _ => none
  | m + 1, o :: l, e => match stepE tb n ops e o with
    | some e' => prun tb n ops m l e'
    | none => none

theorem WO_stepE {tb : Tab} (htb : TabOk P tb) {o : Oper} {e' : Env} (hs : stepE tb n ops e o = some e') (h : WO P n R ops md l tl k e' C) : WO P n R ops md (o :: l) tl k e C := by
  unfold stepE at hs
  cases hdq : (dstOk n o.dst && qk o.op) with
  | false => rw [hdq] at hs; cases hs
  | true =>
    rw [hdq] at hs
    simp only [Bool.and_eq_true] at hdq
    simp only [cond_true] at hs
    split at hs
    · rename_i hg
      split at hs
      · rename_i v hv
        obtain rfl := Option.some.inj hs
        exact WO_quiet v hg hdq.2 hdq.1 (fun a ha w _ => pev_ok htb ha hv w) h
      · cases hs
    · rename_i hg
      obtain rfl := Option.some.inj hs
      exact WO_skip hg hdq.1 h
    · cases hs

theorem WO_pure {tb : Tab} (htb : TabOk P tb) (m : Nat) (e' : Env) {e1 : Env} {l' : List Oper} (hp : prun tb n ops m l e = some (e1, l')) (hs : subL e1 e') (h : WO P n R ops md l' tl k e' C) :
    WO P n R ops md l tl k e C := by
  induction m generalizing l e with
  | zero =>
    simp only [prun, Option.some.injEq, Prod.mk.injEq] at hp
    obtain ⟨rfl, rfl⟩ := hp
    exact WO.sub hs h
  | succ m ih =>
    cases l with
    | nil => simp [prun] at hp
    | cons o l =>
      simp only [prun] at hp
      split at hp
      · rename_i e2 he2
        exact WO_stepE htb he2 (ih hp)
      · cases hp

end
/-- A tree of orders. -/
def WT (P : Program) (n : Nat) (R : Act → World → Prop) (ops : Array Oper) (S : World → Prop) (K : Act → World → Prop) (t : OT) (k : List KI) (e : Env) (C : World → Prop) : Prop :=
  ∀ a w, Ag a n e → C w → S w → LxT P ops (wpK P R k) S K t a w

section
variable {P : Program} {n : Nat} {R : Act → World → Prop} {ops : Array Oper} {k : List KI} {e : Env} {C S : World → Prop} {K : Act → World → Prop}

theorem WK_plan {id : Nat} {l : List Oper} (m : Nat) (σ : List Nat) (t : OT) (hm : P.follows .mixedOrders = true) (hB : planB l.toArray m σ t = true) (hC : Closed C)
    (h : WO P n R l.toArray (some fun _ => True) (σ.map fun i => l.toArray.getD i default) (fun a w => C w ∧ LxT P l.toArray (wpK P R k) C (fun a w => wpList P l.toArray (wpK P R k) (l.drop m) a w) t a w) k e C) : WK P n R (.code (.region id l.toArray true) :: k) e C := fun a w ha hw =>
  have hd : C w.drew := hC w _ hw (Ext.drew w)
  wp_region_plan (S := C) m σ t hm hB (wpK_panic k) (h a w.drew ha hd trivial)

theorem WO_plan {t : OT} (h : WT P n R ops C K t k e C) : WO P n R ops (some fun _ => True) [] (fun a w => C w ∧ LxT P ops (wpK P R k) C K t a w) k e C := fun a w ha hw _ => ⟨hw, h a w ha hw hw⟩
theorem WT_run {σ : List Nat} {t : OT} (h : WO P n R ops (some S) (σ.map fun i => ops.getD i default) (LxT P ops (wpK P R k) S K t) k e C) : WT P n R ops S K (.run σ t) k e C := fun a w ha hw hS => h a w ha hw hS
theorem WO_tree {md : Option (World → Prop)} {t : OT} (hmd : md = some S) (h : WT P n R ops S K t k e C) : WO P n R ops md [] (LxT P ops (wpK P R k) S K t) k e C := fun a w ha hw hm => h a w ha hw (by rw [hmd] at hm; exact hm)
theorem WT_alt {i : Nat} {t r : OT} (hq : qk (ops.getD i default).op = false) (h1 : WO P n R ops (some S) [ops.getD i default] (LxT P ops (wpK P R k) S K t) k e C) (h2 : WT P n R ops S K r k e C) : WT P n R ops S K (.alt i t r) k e C := fun a w ha hw hS => by
  refine ⟨?_, h2 a w ha hw hS⟩
  have := h1 a w ha hw hS
  simp only [Lx, hq, Bool.false_eq_true, if_false] at this
  exact this
theorem WT_none : WT P n R ops S K .none k e C := fun _ _ _ _ _ => trivial
theorem WT_fin {tl : List Oper} (h : WO P n R ops none tl (fun a w => wpK P R k .normal a w) k e C) : WT P n R ops S (fun a w => wpList P ops (wpK P R k) tl a w) .fin k e C := fun a w ha hw _ => by
  have := wpList_of_Lx tl [] a w (h a w ha hw trivial)
  show wpList P ops (wpK P R k) tl a w
  simpa using this
end

end Go.E
