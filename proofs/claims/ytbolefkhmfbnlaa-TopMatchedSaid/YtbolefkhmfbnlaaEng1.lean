/-
  THE ENGINE, 1: frames known in part, code as a list of what is left to do, and the rules of the code's forms.
  A frame is known by a list 'e' of slots and values; a state of memory by a class C of worlds.
-/
import Derived.Test.YtbolefkhmfbnlaaEng0
import Derived.Below
import Derived.OrdersHeld
import Derived.OwnWalk
import Derived.LoopN
namespace Go.E
open Go.RowKit

abbrev Env := List (Nat × Value)

def look : Env → Nat → Option Value
  | [], _ => none
  | (i, v) :: l, t => cond (Nat.beq i t) (some v) (look l t)

def subL (e : Env) : Env → Prop
  | [] => True
  | (i, v) :: l => look e i = some v ∧ subL e l

theorem subL.spec {e : Env} : ∀ {e' : Env}, subL e e' → ∀ i v, look e' i = some v → look e i = some v
  | [], _, i, v, h => by simp [look] at h
  | (j, u) :: l, hs, i, v, h => by
    by_cases hji : j = i
    · subst hji
      simp only [look, Nat.beq_refl, cond_true] at h
      rw [← h]; exact hs.1
    · have hb : Nat.beq j i = false := by
        cases hb : Nat.beq j i with
        | false => rfl
        | true => exact absurd (Nat.eq_of_beq_eq_true hb) hji
      simp only [look, hb, cond_false] at h
      exact hs.2.spec i v h

structure Ag (a : Act) (n : Nat) (e : Env) : Prop where
  df : a.defers = []
  sz : a.tmps.size = n
  fit : ∀ i v, look e i = some v → a.tmps[i]? = some v

theorem Ag.sub {a : Act} {n : Nat} {e e' : Env} (h : Ag a n e) (hs : subL e e') : Ag a n e' :=
  ⟨h.df, h.sz, fun i v hv => h.fit i v (hs.spec i v hv)⟩

def setE (e : Env) (d : Option Tmp) (v : Value) : Env :=
  match d with
  | some d => (d, v) :: e
  | none => e

def dstOk (n : Nat) (d : Option Tmp) : Bool :=
  match d with
  | some d => Nat.blt d n
  | none => true

theorem Ag.put {a : Act} {n : Nat} {e : Env} {d : Option Tmp} (h : Ag a n e) (hd : dstOk n d = true) (v : Value) : Ag (a.put d v) n (setE e d v) := by
  cases d with
  | none => exact h
  | some d =>
    have hdn : d < n := by simpa [dstOk, Nat.blt_eq] using hd
    refine ⟨h.df, by simp [Act.put, h.sz], fun i u hu => ?_⟩
    simp only [setE, look] at hu
    by_cases hdi : d = i
    · subst hdi
      simp only [Nat.beq_refl, cond_true, Option.some.injEq] at hu
      subst hu
      simp [Act.put, h.sz, hdn]
    · have hb : Nat.beq d i = false := by
        cases hb : Nat.beq d i with
        | false => rfl
        | true => exact absurd (Nat.eq_of_beq_eq_true hb) hdi
      simp only [hb, cond_false] at hu
      have := h.fit i u hu
      simp only [Act.put, Array.getElem?_setIfInBounds_ne hdi]
      exact this

def ev (e : Env) : Operand → Option Value
  | .tmp t => look e t
  | .const v => some v
  | .global g => some (.pointer (some ⟨g, 0, none⟩))
  | .func f => some (.func (.func f) #[] #[])

theorem Ag.ev {a : Act} {n : Nat} {e : Env} (h : Ag a n e) {x : Operand} {v : Value} (hx : ev e x = some v) : a.eval x = v := by
  cases x with
  | tmp t =>
    have := h.fit t v hx
    simp [Act.eval, this]
  | const u => simpa [E.ev, Act.eval] using hx
  | global g => simpa [E.ev, Act.eval] using hx
  | func f => simpa [E.ev, Act.eval] using hx

def evs (e : Env) : List Operand → Option (List Value)
  | [] => some []
  | x :: l => match ev e x, evs e l with
    | some v, some vs => some (v :: vs)
    | _, _ => none

theorem Ag.evs {a : Act} {n : Nat} {e : Env} (h : Ag a n e) : ∀ {l : List Operand} {vs : List Value}, evs e l = some vs → l.map a.eval = vs
  | [], vs, hl => by simp [E.evs] at hl; simp [hl]
  | x :: l, vs, hl => by
    simp only [E.evs] at hl
    split at hl
    · rename_i v us hx hus
      obtain rfl := Option.some.inj hl
      simp [h.ev hx, h.evs hus]
    · cases hl

/-! ### What is left to do -/

inductive KI where
  | code (c : Code)
  | blk (id : Nat)
  | rep (c : Code) (fuel : Nat)

def wpK (P : Program) (R : Act → World → Prop) : List KI → Exit → Act → World → Prop
  | [], e, a, w => (match e with | .normal => R a w | .ret => R a w | _ => False)
  | .code c :: k, e, a, w => (match e with | .normal => c.wp P (wpK P R k) a w | e => wpK P R k e a w)
  | .rep c f :: k, e, a, w => (match e with | .normal => Code.rounds P c (wpK P R k) f a w | e => wpK P R k e a w)
  | .blk id :: k, e, a, w => (match e with | .exit j => (if j = id then wpK P R k .normal a w else wpK P R k (.exit j) a w) | e => wpK P R k e a w)

theorem wpK_panic {P : Program} {R : Act → World → Prop} : ∀ (k : List KI) (c : List PanicEntry) (a : Act) (w : World), ¬ wpK P R k (.panic c) a w
  | [], _, _, _ => fun h => h
  | .code _ :: k, c, a, w => fun h => wpK_panic k c a w h
  | .rep _ _ :: k, c, a, w => fun h => wpK_panic k c a w h
  | .blk _ :: k, c, a, w => fun h => wpK_panic k c a w h

/-- From every frame that fits, in every world of the class, what is left to do comes to R. -/
def WK (P : Program) (n : Nat) (R : Act → World → Prop) (k : List KI) (e : Env) (C : World → Prop) : Prop :=
  ∀ a w, Ag a n e → C w → wpK P R k .normal a w

section
variable {P : Program} {n : Nat} {R : Act → World → Prop} {k : List KI} {e : Env} {C : World → Prop}

theorem WK.sub {e' : Env} (hs : subL e e') (h : WK P n R k e' C) : WK P n R k e C := fun a w ha hw => h a w (ha.sub hs) hw
theorem WK.cls {C' : World → Prop} (hs : ∀ w, C w → C' w) (h : WK P n R k e C') : WK P n R k e C := fun a w ha hw => h a w ha (hs w hw)

theorem WK_seq {x y : Code} (h : WK P n R (.code x :: .code y :: k) e C) : WK P n R (.code (.seq x y) :: k) e C := fun a w ha hw =>
  wp_seq (wp_mono (h a w ha hw) (fun ex a' w' hq => by cases ex <;> exact hq))

theorem WK_skip (h : WK P n R k e C) : WK P n R (.code .skip :: k) e C := fun a w ha hw => wp_skip (h a w ha hw)

theorem WK_block {id : Nat} {c : Code} (h : WK P n R (.code c :: .blk id :: k) e C) : WK P n R (.code (.block id c) :: k) e C := fun a w ha hw =>
  wp_block (wp_mono (h a w ha hw) (fun ex a' w' hq => by cases ex <;> exact hq))

theorem WK_blk {id : Nat} (h : WK P n R k e C) : WK P n R (.blk id :: k) e C := h

/-- Where an exit leads. -/
def dropTo (id : Nat) : List KI → Option (List KI)
  | [] => none
  | .blk j :: k => cond (Nat.beq id j) (some k) (dropTo id k)
  | .code _ :: k => dropTo id k
  | .rep _ _ :: k => dropTo id k

theorem wpK_exit {id : Nat} : ∀ {k k' : List KI} {a : Act} {w : World}, dropTo id k = some k' → wpK P R k' .normal a w → wpK P R k (.exit id) a w
  | [], k', a, w, hd, _ => by simp [dropTo] at hd
  | .code c :: k, k', a, w, hd, h => wpK_exit (k := k) hd h
  | .rep c f :: k, k', a, w, hd, h => wpK_exit (k := k) hd h
  | .blk j :: k, k', a, w, hd, h => by
    simp only [dropTo] at hd
    show (if id = j then _ else _)
    cases hb : Nat.beq id j with
    | true =>
      rw [if_pos (Nat.eq_of_beq_eq_true hb)]
      simp only [hb, cond_true, Option.some.injEq] at hd
      rw [hd]; exact h
    | false =>
      rw [if_neg (fun hh => by subst hh; simp [Nat.beq_refl] at hb)]
      simp only [hb, cond_false] at hd
      exact wpK_exit hd h

theorem WK_exit {id : Nat} {k' : List KI} (hd : dropTo id k = some k') (h : WK P n R k' e C) : WK P n R (.code (.exit id) :: k) e C := fun a w ha hw =>
  wp_exit (wpK_exit hd (h a w ha hw))

theorem wpK_ret : ∀ {k : List KI} {a : Act} {w : World}, R a w → wpK P R k .ret a w
  | [], _, _, h => h
  | .code _ :: k, _, _, h => wpK_ret (k := k) h
  | .rep _ _ :: k, _, _, h => wpK_ret (k := k) h
  | .blk _ :: k, _, _, h => wpK_ret (k := k) h

theorem WK_ret (h : ∀ a w, Ag a n e → C w → R a w) : WK P n R (.code .ret :: k) e C := fun a w ha hw => wp_ret (wpK_ret (h a w ha hw))
theorem WK_nil (h : ∀ a w, Ag a n e → C w → R a w) : WK P n R [] e C := h

theorem WK_cond {c : Operand} {x y : Code} {b : Bool} (hc : ev e c = some (.bool b)) (ht : b = true → WK P n R (.code x :: k) e C) (hf : b = false → WK P n R (.code y :: k) e C) :
    WK P n R (.code (.cond c x y) :: k) e C := fun a w ha hw =>
  wp_cond_split (ha.ev hc) (fun hb => ht hb a w ha hw) (fun hb => hf hb a w ha hw)

/-- Ways that meet again: what stands behind is shown once. -/
theorem WK_join {β : Type} (J : β → Prop) (e' : β → Env) (C' : β → World → Prop) {i : KI}
    (hrest : ∀ x, J x → WK P n R k (e' x) (C' x)) (h : (∀ x, J x → WK P n R k (e' x) (C' x)) → WK P n R (i :: k) e C) : WK P n R (i :: k) e C := h hrest

/-! ### Loops, with fuel -/

/-- Ways that meet again, with nothing left open. -/
theorem WK_meet (e' : Env) (C' : World → Prop) {i : KI} (hrest : WK P n R k e' C') (h : WK P n R k e' C' → WK P n R (i :: k) e C) : WK P n R (i :: k) e C := h hrest
theorem WK_meet2 (e' : Env) (C' : World → Prop) {i j : KI} (hrest : WK P n R k e' C') (h : WK P n R k e' C' → WK P n R (i :: j :: k) e C) : WK P n R (i :: j :: k) e C := h hrest
theorem WK_join2 {β : Type} (J : β → Prop) (e' : β → Env) (C' : β → World → Prop) {i j : KI}
    (hrest : ∀ x, J x → WK P n R k (e' x) (C' x)) (h : (∀ x, J x → WK P n R k (e' x) (C' x)) → WK P n R (i :: j :: k) e C) : WK P n R (i :: j :: k) e C := h hrest
theorem WK_condT {c : Operand} {x y : Code} (hc : ev e c = some (.bool true)) (h : WK P n R (.code x :: k) e C) : WK P n R (.code (.cond c x y) :: k) e C :=
  WK_cond hc (fun _ => h) (fun hb => by cases hb)
theorem WK_condF {c : Operand} {x y : Code} (hc : ev e c = some (.bool false)) (h : WK P n R (.code y :: k) e C) : WK P n R (.code (.cond c x y) :: k) e C :=
  WK_cond hc (fun hb => by cases hb) (fun _ => h)

/-- A loop whose rounds do what 'step' does. G: what else the frame and the memory hang on (addresses, say). -/
theorem WK_loop {S X G : Type} {c : Code} (step : S → Option (Step S X)) (en : S → G → Env) (cl : S → G → World → Prop) (good : S → G → Prop)
    (f : Nat) (s : S) (g : G) (x : X) (hx : loopM f step s = some x) (hg : good s g) (hs : subL e (en s g)) (hC : ∀ w, C w → cl s g w)
    (round : ∀ (s : S) (g : G) (o : Step S X) (fl : Nat), step s = some o → good s g →
      (∀ s' g', o = .next s' → good s' g' → WK P n R (.rep c fl :: k) (en s' g') (cl s' g')) →
      (∀ x', o = .done x' → x' = x) →
      WK P n R (.code c :: .rep c fl :: k) (en s g) (cl s g)) :
    WK P n R (.code (.loop c) :: k) e C := by
  have key : ∀ (f : Nat) (s : S) (g : G), loopM f step s = some x → good s g → WK P n R (.rep c f :: k) (en s g) (cl s g) := by
    intro f
    induction f with
    | zero => intro s g h; simp [loopM] at h
    | succ f ih =>
      intro s g h hgood a w ha hw
      show Code.rounds P c (wpK P R k) (f + 1) a w
      rw [rounds_succ]
      simp only [loopM] at h
      obtain ⟨o, ho, hrest⟩ := Option.bind_eq_some_iff.1 h
      refine wp_mono (round s g o f ho hgood ?_ ?_ a w ha hw) (fun ex a' w' hq => by cases ex <;> exact hq)
      · rintro s' g' rfl hg'
        exact ih s' g' hrest hg'
      · rintro x' rfl
        exact Option.some.inj hrest
  intro a w ha hw
  exact wp_loop_rounds f (key f s g hx hg a w (ha.sub hs) (hC w hw))

end
end Go.E
