/-
  THE ENGINE, 13: ranges over a function. A loop's round is walked in a frame of its own; behind the loop the frame bears a mark.
-/
import Derived.Test.YtbolefkhmfbnlaaEng12
import Derived.RangeFuncWrites
import Derived.TacticsIn
import Derived.OrdersIn
namespace Go.E
open Go.RowKit

/-! ### Out of the plain calculus into a round, or a frame with marks -/

def fen : Option Nat → Fence
  | none => Fence.wide
  | some l => Fence.wide.inRound l
theorem fen_fn (ro : Option Nat) (f : FuncId) : (fen ro).fn f := by cases ro <;> exact trivial
theorem fen_depth (ro : Option Nat) : (fen ro).depth = none := by cases ro <;> rfl
theorem fen_round (ro : Option Nat) : (fen ro).round = ro := by cases ro <;> rfl

def noDef (o : Oper) : Bool := match o.op with | .defer _ => false | _ => true
def sh (ds : List Deferred) (a : Act) : Act := { a with defers := a.defers ++ ds }
theorem sh_put (ds : List Deferred) (a : Act) (d : Option Tmp) (v : Value) : (sh ds a).put d v = sh ds (a.put d v) := by cases d <;> rfl
theorem sh_eval (ds : List Deferred) (a : Act) : (sh ds a).eval = a.eval := by
  funext x
  cases x <;> rfl
theorem sh_nil (a : Act) : sh [] a = a := by simp [sh]

section
variable {P : Program} {ro : Option Nat} {ds : List Deferred} {Q Q' : Exit → Act → World → Prop} {ops : Array Oper}

theorem callsIn_fen {f : FuncId} {args : Array Value} {w : World} {R : Ending → World → Prop} (h : Calls P f args w R) : CallsIn (fen ro) 0 P f args w R := by
  cases ro with
  | none => exact callsIn_wide.2 h
  | some l => exact (callsIn_wide (n := 0)).2 h
theorem rowsIn_fen {row : String} {args : Array Value} {w : World} {R : Value → World → Prop} (h : Rows P row args w R) : RowsIn (fen ro) 0 P row args w R := by
  have : RowsIn Fence.wide 0 P row args w R := fun c cs _ => let ⟨v, w', r, s⟩ := h c cs; ⟨v, w', r, stepsIn_wide.2 s⟩
  cases ro with
  | none => exact this
  | some l => exact this

theorem operIn {o : Oper} {a : Act} {w : World} {K K' : Act → World → Prop} (hn : noDef o = true) (hQ : ∀ c a w, ¬ Q (.panic c) a w) (hQ2 : ∀ a w, ¬ Q .outgrown a w)
    (hK : ∀ a w, K a w → K' (sh ds a) w) (h : o.wp P a w K Q) : o.wpIn (fen ro) 0 P (sh ds a) w K' Q' := by
  unfold Oper.wpIn
  refine ⟨fun f _ => fen_fn ro f, ?_⟩
  have hs : o.semAt (fen ro).round (sh ds a).eval = execOp a.eval o := by
    rw [fen_round, sh_eval]
    exact Oper.semAt_eq ro _ o (fun c hc => by unfold noDef at hn; rw [hc] at hn; cases hn)
  rw [hs]
  unfold Oper.wp at h
  generalize (execOp a.eval o).run P w = r at h ⊢
  have hd : (fen ro).depth.isSome = true → 1 ≤ 0 := fun hh => by rw [fen_depth] at hh; cases hh
  cases r with
  | ok x w' =>
    cases x <;> simp only [Oper.upon, Oper.uponIn] at h ⊢
    case value v => rw [sh_put]; exact hK _ _ h
    case skip => rw [sh_put]; exact hK _ _ h
    case defer d =>
      have e : ({ sh ds a with defers := d :: (sh ds a).defers } : Act).put o.dst undef = sh ds (({ a with defers := d :: a.defers } : Act).put o.dst undef) := by
        rw [← sh_put]; rfl
      rw [e]; exact hK _ _ h
    case enter f args =>
      refine ⟨hd, callsIn_fen (h.mono ?_)⟩
      intro e w'' he
      cases e with
      | returned v => show K' ((sh ds a).put o.dst v) w''; rw [sh_put]; exact hK _ _ he
      | panicked c => exact absurd he (hQ _ _ _)
      | outgrown => exact absurd he.choose_spec.choose_spec (hQ2 _ _)
    case row rw' args =>
      refine ⟨hd, rowsIn_fen (h.mono ?_)⟩
      intro v w'' he
      rw [sh_put]; exact hK _ _ he
  | halt x w' =>
    cases x <;> simp only [Oper.upon, Oper.uponIn] at h ⊢
    exact absurd h (hQ _ _ _)

theorem listIn_of_Lx (hQ : ∀ c a w, ¬ Q (.panic c) a w) (hQ2 : ∀ a w, ¬ Q .outgrown a w) (tl : List Oper) :
    ∀ (l : List Oper) (a : Act) (w : World), l.all noDef = true → Lx P ops Q none (fun a w => wpListIn (fen ro) 0 P ops Q' tl (sh ds a) w) l a w → wpListIn (fen ro) 0 P ops Q' (l ++ tl) (sh ds a) w
  | [], _, _, _, h => h
  | o :: l, a, w, hn, h => by
    simp only [List.all_cons, Bool.and_eq_true] at hn
    simp only [Lx] at h
    simp only [List.cons_append, wpListIn]
    have hy : yielded ops (sh ds a).tmps = yielded ops a.tmps := rfl
    rw [hy]
    split at h
    · rename_i hw
      rw [if_pos hw]
      exact operIn hn.1 hQ hQ2 (fun a w hk => listIn_of_Lx hQ hQ2 tl l a w hn.2 hk) h
    · rename_i hw
      rw [if_neg hw]
      refine ⟨fun f _ => fen_fn ro f, ?_⟩
      rw [sh_put]
      exact listIn_of_Lx hQ hQ2 tl l _ _ hn.2 h

theorem anyIn_of_any (hQ : ∀ c a w, ¬ Q (.panic c) a w) (hQ2 : ∀ a w, ¬ Q .outgrown a w) (hN : ∀ a w, Q .normal a w → Q' .normal (sh ds a) w) (hn : ops.toList.all noDef = true) {md : Region.Mode} :
    ∀ (f : Nat) (listed : Array Bool) (a : Act) (w : World), wpAny P md ops Q f listed a w → wpAnyIn (fen ro) 0 P md ops Q' f listed (sh ds a) w
  | 0, listed, a, w, h => ⟨h.1, hN _ _ h.2⟩
  | f + 1, listed, a, w, h => by
    refine ⟨fun h0 => hN _ _ (h.1 h0), fun i hi => ?_⟩
    have h2 := h.2 i hi
    unfold wpOp at h2
    unfold wpOpIn
    cases ho : ops[i]? with
    | none =>
      simp only [ho] at h2 ⊢
      exact anyIn_of_any hQ hQ2 hN hn f _ _ _ h2
    | some o =>
      simp only [ho] at h2 ⊢
      have hno : noDef o = true := List.all_eq_true.1 hn o (by
        obtain ⟨h1, h3⟩ := Array.getElem?_eq_some_iff.1 ho
        rw [← h3]; simp)
      have hy : yielded ops (sh ds a).tmps = yielded ops a.tmps := rfl
      rw [hy]
      by_cases hw : Region.wanted o (yielded ops a.tmps) = true
      · rw [if_pos hw] at h2 ⊢
        rcases h2 with h2 | ⟨_, b, w2, h3⟩
        · exact operIn hno hQ hQ2 (fun a w hk => anyIn_of_any hQ hQ2 hN hn f _ a w hk) h2
        · exact absurd h3 (hQ2 _ _)
      · rw [if_neg hw] at h2 ⊢
        refine ⟨fun f _ => fen_fn ro f, ?_⟩
        rw [sh_put]
        exact anyIn_of_any hQ hQ2 hN hn f _ _ _ h2
end

/-! ### The walk there -/

def wpKx (ro : Option Nat) (P : Program) (R : Act → World → Prop) : List KI → Exit → Act → World → Prop
  | [], e, a, w => (match e with | .normal => R a w | .ret => (match ro with | none => R a w | some _ => False) | _ => False)
  | .code c :: k, e, a, w => (match e with | .normal => c.wpIn (fen ro) 0 P (wpKx ro P R k) a w | e => wpKx ro P R k e a w)
  | .rep _ _ :: k, e, a, w => (match e with | .normal => False | e => wpKx ro P R k e a w)
  | .blk id :: k, e, a, w => (match e with | .exit j => (if j = id then wpKx ro P R k .normal a w else wpKx ro P R k (.exit j) a w) | e => wpKx ro P R k e a w)

theorem wpKx_none {P : Program} {R : Act → World → Prop} : ∀ (k : List KI) (e : Exit) (a : Act) (w : World), wpKx none P R k e a w → wpK P R k e a w
  | [], e, a, w, h => by cases e <;> exact h
  | .code c :: k, e, a, w, h => by
    cases e with
    | normal => exact wpIn_wide.1 (wpIn_mono (n := 0) h (fun e a w => wpKx_none k e a w))
    | ret => exact wpKx_none k _ a w h
    | exit _ => exact wpKx_none k _ a w h
    | goto _ => exact wpKx_none k _ a w h
    | panic _ => exact wpKx_none k _ a w h
    | outgrown => exact wpKx_none k _ a w h
  | .rep c f :: k, e, a, w, h => by
    cases e with
    | normal => exact h.elim
    | ret => exact wpKx_none k _ a w h
    | exit _ => exact wpKx_none k _ a w h
    | goto _ => exact wpKx_none k _ a w h
    | panic _ => exact wpKx_none k _ a w h
    | outgrown => exact wpKx_none k _ a w h
  | .blk id :: k, e, a, w, h => by
    cases e with
    | exit j =>
      show (if j = id then _ else _)
      have h : (if j = id then wpKx none P R k .normal a w else wpKx none P R k (.exit j) a w) := h
      split
      · rename_i hj; rw [if_pos hj] at h; exact wpKx_none k _ a w h
      · rename_i hj; rw [if_neg hj] at h; exact wpKx_none k _ a w h
    | normal => exact wpKx_none k _ a w h
    | ret => exact wpKx_none k _ a w h
    | goto _ => exact wpKx_none k _ a w h
    | panic _ => exact wpKx_none k _ a w h
    | outgrown => exact wpKx_none k _ a w h

def WKx (ro : Option Nat) (ds : List Deferred) (P : Program) (n : Nat) (R : Act → World → Prop) (k : List KI) (e : Env) (C : World → Prop) : Prop :=
  ∀ a w, Ag a n e → C w → wpKx ro P R k .normal (sh ds a) w

section
variable {ro : Option Nat} {ds : List Deferred} {P : Program} {n : Nat} {R : Act → World → Prop} {k : List KI} {e : Env} {C : World → Prop}

theorem WKx.sub {e' : Env} (hs : subL e e') (h : WKx ro ds P n R k e' C) : WKx ro ds P n R k e C := fun a w ha hw => h a w (ha.sub hs) hw
theorem WKx.cls {C' : World → Prop} (hs : ∀ w, C w → C' w) (h : WKx ro ds P n R k e C') : WKx ro ds P n R k e C := fun a w ha hw => h a w ha (hs w hw)
theorem WKx_seq {x y : Code} (h : WKx ro ds P n R (.code x :: .code y :: k) e C) : WKx ro ds P n R (.code (.seq x y) :: k) e C := fun a w ha hw =>
  wpIn_seq (wpIn_mono (h a w ha hw) (fun ex a' w' hq => by cases ex <;> exact hq))
theorem WKx_skip (h : WKx ro ds P n R k e C) : WKx ro ds P n R (.code .skip :: k) e C := fun a w ha hw => wpIn_skip (h a w ha hw)
theorem WKx_block {id : Nat} {c : Code} (h : WKx ro ds P n R (.code c :: .blk id :: k) e C) : WKx ro ds P n R (.code (.block id c) :: k) e C := fun a w ha hw =>
  wpIn_block (wpIn_mono (h a w ha hw) (fun ex a' w' hq => by cases ex <;> exact hq))
theorem WKx_blk {id : Nat} (h : WKx ro ds P n R k e C) : WKx ro ds P n R (.blk id :: k) e C := h
theorem wpKx_exit {id : Nat} : ∀ {k k' : List KI} {a : Act} {w : World}, dropTo id k = some k' → wpKx ro P R k' .normal a w → wpKx ro P R k (.exit id) a w
  | [], k', a, w, hd, _ => by simp [dropTo] at hd
  | .code c :: k, k', a, w, hd, h => wpKx_exit (k := k) hd h
  | .rep c f :: k, k', a, w, hd, h => wpKx_exit (k := k) hd h
  | .blk j :: k, k', a, w, hd, h => by
    simp only [dropTo] at hd
    show (if id = j then _ else _)
    cases hb : Nat.beq id j with
    | true =>
      rw [if_pos (Nat.eq_of_beq_eq_true hb)]
      simp only [hb, cond_true, Option.some.injEq] at hd
      rw [hd]; exact h
    | false =>
      rw [if_neg (fun hh => by subst hh; simp [Nat.beq_refl] at hb)]
      simp only [hb, cond_false] at hd
      exact wpKx_exit hd h
theorem WKx_exit {id : Nat} {k' : List KI} (hd : dropTo id k = some k') (h : WKx ro ds P n R k' e C) : WKx ro ds P n R (.code (.exit id) :: k) e C := fun a w ha hw =>
  wpIn_exit (wpKx_exit hd (h a w ha hw))
theorem wpKx_ret : ∀ {k : List KI} {a : Act} {w : World}, R a w → wpKx none P R k .ret a w
  | [], _, _, h => h
  | .code _ :: k, _, _, h => wpKx_ret (k := k) h
  | .rep _ _ :: k, _, _, h => wpKx_ret (k := k) h
  | .blk _ :: k, _, _, h => wpKx_ret (k := k) h
theorem WKx_ret (h : ∀ a w, Ag a n e → C w → R (sh ds a) w) : WKx none ds P n R (.code .ret :: k) e C := fun a w ha hw => wpIn_ret (wpKx_ret (h a w ha hw))
theorem WKx_nil (h : ∀ a w, Ag a n e → C w → R (sh ds a) w) : WKx ro ds P n R [] e C := h
theorem WKx_cond {c : Operand} {x y : Code} {b : Bool} (hc : ev e c = some (.bool b)) (ht : b = true → WKx ro ds P n R (.code x :: k) e C) (hf : b = false → WKx ro ds P n R (.code y :: k) e C) :
    WKx ro ds P n R (.code (.cond c x y) :: k) e C := fun a w ha hw =>
  wpIn_cond_split (by rw [sh_eval]; exact ha.ev hc) (fun hb => ht hb a w ha hw) (fun hb => hf hb a w ha hw)

theorem WKx_condT {c : Operand} {x y : Code} (hc : ev e c = some (.bool true)) (h : WKx ro ds P n R (.code x :: k) e C) : WKx ro ds P n R (.code (.cond c x y) :: k) e C :=
  WKx_cond hc (fun _ => h) (fun hb => by cases hb)
theorem WKx_condF {c : Operand} {x y : Code} (hc : ev e c = some (.bool false)) (h : WKx ro ds P n R (.code y :: k) e C) : WKx ro ds P n R (.code (.cond c x y) :: k) e C :=
  WKx_cond hc (fun hb => by cases hb) (fun _ => h)

theorem wpK0_out {R0 : Act → World → Prop} (a : Act) (w : World) : ¬ wpK P R0 [] .outgrown a w := fun h => h

theorem WKx_region {id : Nat} {l : List Oper} (hn : l.all noDef = true)
    (h : WO P n (fun a w => wpKx ro P R k .normal (sh ds a) w) l.toArray none l (fun a w => wpK P (fun a w => wpKx ro P R k .normal (sh ds a) w) [] .normal a w) [] e C) : WKx ro ds P n R (.code (.region id l.toArray false) :: k) e C := fun a w ha hw =>
  wpIn_region_lit (by
    have := listIn_of_Lx (ro := ro) (ds := ds) (Q' := wpKx ro P R k) (wpK_panic []) wpK0_out [] l a w hn (h a w ha hw trivial)
    simpa using this)

theorem WKx_draw {id : Nat} {l : List Oper} (hn : l.all noDef = true) (m : Nat) (σ : List Nat) (hm : P.follows .mixedOrders = true) (hB : drawB l.toArray m σ = true) (hC : Closed C)
    (h : WO P n (fun a w => wpKx ro P R k .normal (sh ds a) w) l.toArray (some C) (σ.map fun i => l.toArray.getD i default) (fun a w' => wpList P l.toArray (wpK P (fun a w => wpKx ro P R k .normal (sh ds a) w) []) (l.drop m) a w') [] e C) : WKx ro ds P n R (.code (.region id l.toArray true) :: k) e C := fun a w ha hw =>
  have hd : C w.drew := hC w _ hw (Ext.drew w)
  wpIn_region_any hm (anyIn_of_any (Q := wpK P (fun a w => wpKx ro P R k .normal (sh ds a) w) []) (wpK_panic []) wpK0_out (fun _ _ h => h) (by simpa using hn) _ _ a w.drew (wpAny_perm (S := C) m σ hB (wpK_panic []) hd (h a w.drew ha hd hd)))

theorem WKx_plan {id : Nat} {l : List Oper} (hn : l.all noDef = true) (m : Nat) (σ : List Nat) (t : OT) (hm : P.follows .mixedOrders = true) (hB : planB l.toArray m σ t = true) (hC : Closed C)
    (h : WO P n (fun a w => wpKx ro P R k .normal (sh ds a) w) l.toArray (some fun _ => True) (σ.map fun i => l.toArray.getD i default) (fun a w' => C w' ∧ LxT P l.toArray (wpK P (fun a w => wpKx ro P R k .normal (sh ds a) w) []) C (fun a w' => wpList P l.toArray (wpK P (fun a w => wpKx ro P R k .normal (sh ds a) w) []) (l.drop m) a w') t a w') [] e C) : WKx ro ds P n R (.code (.region id l.toArray true) :: k) e C := fun a w ha hw =>
  have hd : C w.drew := hC w _ hw (Ext.drew w)
  wpIn_region_any hm (anyIn_of_any (Q := wpK P (fun a w => wpKx ro P R k .normal (sh ds a) w) []) (wpK_panic []) wpK0_out (fun _ _ h => h) (by simpa using hn) _ _ a w.drew (wpAny_plan (S := C) m σ t hB (wpK_panic []) (h a w.drew ha hd trivial)))

/-- Behind a region: on with the walk. -/
theorem WK_back (h : WKx ro ds P n R k e C) : WK P n (fun a w => wpKx ro P R k .normal (sh ds a) w) [] e C := h
end

end Go.E
