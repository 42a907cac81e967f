/-
  THE ENGINE, 11: aggregates held against each other; calls that are walked through in place; parts of what the call owns.
-/
import Derived.Test.YtbolefkhmfbnlaaEng9
import Derived.Laws.StructEq
namespace Go.E
open Go.RowKit

/-! ### Aggregates of numbers and bools, held against each other -/

def aggT (P : Program) (t : TypeId) : Bool := match P.underlying t with
  | some (.struct _) | some (.array _ _) => true
  | _ => false

def sizT (P : Program) (t : TypeId) : Option Nat := (P.info? t).map (·.size)

/-- A value out of its cells. -/
def wrapV (P : Program) (t : TypeId) (cs : List Value) : Option Value :=
  cond (aggT P t) (some (.agg cs.toArray)) (match cs with | [v] => some v | _ => none)

def partF (P : Program) (t : TypeId) (cs : List Value) (off : Nat) : Option (List Value) :=
  cond (aggT P t) ((sizT P t).map fun s => (cs.drop off).take s) (cs[off]?.map fun v => [v])

def andF (a b : Option Bool) : Option Bool := match a, b with
  | some x, some y => some (x && y)
  | _, _ => none

def foldF {α : Type} (f : α → Option Bool) : List α → Option Bool
  | [] => some true
  | x :: l => andF (f x) (foldF f l)

def eqF (P : Program) : Nat → TypeId → List Value → List Value → Option Bool
  | 0, _, _, _ => none
  | d + 1, t, xs, ys =>
    match P.underlying t with
    | some .bool => (match xs, ys with | [.bool a], [.bool b] => some (a == b) | _, _ => none)
    | some (.int _) => (match xs, ys with | [.int k a], [.int k' b] => if k = k' then some (a == b) else none | _, _ => none)
    | some (.struct fs) => cond (P.stoodInHeld t) none (foldF (fun f : Field => cond (f.name == "_") none (match partF P f.type xs f.offset, partF P f.type ys f.offset with
      | some a, some b => eqF P d f.type a b
      | _, _ => none)) fs.toList)
    | some (.array n e) => (match sizT P e with
      | some s => foldF (fun i : Nat => match partF P e xs (i * s), partF P e ys (i * s) with
        | some a, some b => eqF P d e a b
        | _, _ => none) (List.range' 0 n)
      | none => none)
    | _ => none

theorem run_isAgg {P : Program} {t : TypeId} {b : Bool} (hu : (P.underlying t).isSome = true) (h : aggT P t = b) (w : World) : (isAgg t).run P w = .ok b w := by
  unfold aggT at h
  cases hd : P.underlying t with
  | none => rw [hd] at hu; cases hu
  | some d =>
    rw [hd] at h
    have : (underlying t).run P w = .ok d w := by unfold underlying program; simp [Sem.run, hd]
    unfold isAgg
    simp only [Sem.run_bind, this, Result.andThen_ok]
    cases d <;> simp at h <;> subst h <;> rfl

theorem run_part {P : Program} {t : TypeId} {cs cs' : List Value} {off : Nat} (hu : (P.underlying t).isSome = true) (h : partF P t cs off = some cs') (w : World) : ∃ v, (part t cs.toArray off).run P w = .ok v w ∧ wrapV P t cs' = some v := by
  unfold partF at h
  unfold wrapV
  cases ha : aggT P t with
  | true =>
    rw [ha] at h
    simp only [cond_true, Option.map_eq_some_iff, sizT] at h
    obtain ⟨s, ⟨i, hi, rfl⟩, rfl⟩ := h
    refine ⟨_, ?_, rfl⟩
    have hs : (sizeOf t).run P w = .ok i.size w := by simp [sizeOf, typeInfo, hi, program, Sem.run]
    unfold part
    simp only [Sem.run_bind, run_isAgg hu ha, Result.andThen_ok, if_true, hs, Sem.run_pure]
    congr 2
    apply Array.ext'
    simp [List.extract]
  | false =>
    rw [ha] at h
    simp only [cond_false, Option.map_eq_some_iff] at h
    obtain ⟨v, hv, rfl⟩ := h
    refine ⟨v, ?_, rfl⟩
    unfold part
    simp [run_isAgg hu ha, hv]

theorem eqF_und {P : Program} : ∀ {d : Nat} {t : TypeId} {xs ys : List Value} {r : Bool}, eqF P d t xs ys = some r → (P.underlying t).isSome = true
  | 0, _, _, _, _, h => by simp [eqF] at h
  | d + 1, t, xs, ys, r, h => by
    cases hd : P.underlying t with
    | none => unfold eqF at h; rw [hd] at h; cases h
    | some _ => rfl

theorem andF_some {a b : Option Bool} {r : Bool} (h : andF a b = some r) : ∃ x y, a = some x ∧ b = some y ∧ r = (x && y) := by
  cases a <;> cases b <;> simp [andF] at h
  exact ⟨_, _, rfl, rfl, h.symm⟩

theorem run_eqF {P : Program} (D : Nat) : ∀ {d : Nat} {t : TypeId} {xs ys : List Value} {x y : Value} {r : Bool} (_ : eqF P d t xs ys = some r) (_ : wrapV P t xs = some x) (_ : wrapV P t ys = some y) (w : World),
    (Op.equalIn (D + d) t x y).run P w = .ok r w
  | 0, _, _, _, _, _, _, h, _, _, _ => by simp [eqF] at h
  | d + 1, t, xs, ys, x, y, r, h, hx, hy, w => by
    have hu0 := eqF_und h
    have step : ∀ {T : TypeId} {o : Nat} {b : Bool}, (match partF P T xs o, partF P T ys o with | some a, some b => eqF P d T a b | _, _ => none) = some b →
        ∀ w, ∃ u v, (part T xs.toArray o).run P w = .ok u w ∧ (part T ys.toArray o).run P w = .ok v w ∧ (Op.equalIn (D + d) T u v).run P w = .ok b w := by
      intro T o b hb w
      split at hb
      · rename_i a c ha hc
        have hT := eqF_und hb
        obtain ⟨u, h1, h2⟩ := run_part hT ha w
        obtain ⟨v, h3, h4⟩ := run_part hT hc w
        exact ⟨u, v, h1, h3, run_eqF D hb h2 h4 w⟩
      · cases hb
    unfold eqF at h
    show (Op.equalIn (D + d + 1) t x y).run P w = _
    unfold wrapV aggT at hx hy
    split at h
    · rename_i hd
      rw [hd] at hx hy
      split at h
      · obtain rfl := Option.some.inj h
        simp only [cond_false, Option.some.injEq] at hx hy
        subst hx; subst hy
        exact run_equalIn_bool' w (D + d) t _ _ hd
      · cases h
    · rename_i q hd
      rw [hd] at hx hy
      split at h
      · simp only [cond_false, Option.some.injEq] at hx hy
        subst hx; subst hy
        split at h
        · rename_i hk
          subst hk
          obtain rfl := Option.some.inj h
          exact run_equalIn_int w (D + d) t _ _ _ _ hd
        · cases h
      · cases h
    · rename_i fs hd
      rw [hd] at hx hy
      simp only [cond_true, Option.some.injEq] at hx hy
      subst hx; subst hy
      cases hp : P.stoodInHeld t with
      | true => rw [hp] at h; cases h
      | false =>
        rw [hp] at h
        simp only [cond_false] at h
        have hf : P.fieldsOf t = fs := by simp [Program.fieldsOf, hd]
        rw [run_equalIn_agg w (D + d) t _ _ (by rw [hf]; exact hd) hp, hf]
        clear hd hf hu0
        generalize fs.toList = l at h
        induction l generalizing r with
        | nil =>
          simp only [foldF, Option.some.injEq] at h
          subst h; rfl
        | cons f l ih =>
          simp only [foldF] at h
          obtain ⟨b, c, hb, hc, rfl⟩ := andF_some h
          cases hn : (f.name == "_") with
          | true => rw [hn] at hb; cases hb
          | false =>
            rw [hn] at hb
            simp only [cond_false] at hb
            have hn' : f.name ≠ "_" := by simpa using hn
            obtain ⟨u, v, h1, h2, h3⟩ := step hb w
            simp only [Op.eqFields, if_pos hn', Sem.run_bind, h1, h2, h3, Result.andThen_ok]
            cases b with
            | false => simp
            | true => simpa using ih c hc
    · rename_i n e hd
      rw [hd] at hx hy
      simp only [cond_true, Option.some.injEq] at hx hy
      subst hx; subst hy
      split at h
      · rename_i s hs
        have hss : ∀ w, (sizeOf e).run P w = .ok s w := fun w => by
          unfold sizT at hs
          obtain ⟨i, hi, rfl⟩ := Option.map_eq_some_iff.1 hs
          simp [sizeOf, typeInfo, hi, program, Sem.run]
        have hu : (underlying t).run P w = .ok (.array n e) w := by unfold underlying program; simp [Sem.run, hd]
        rw [Op.equalIn]
        simp only [Sem.run_bind, hu, Result.andThen_ok, hss]
        simp only [Std.Legacy.Range.forIn_eq_forIn_range', Std.Legacy.Range.size, Nat.sub_zero, Nat.add_sub_cancel, Nat.div_one]
        clear hd hu hu0
        generalize List.range' 0 n = l at h
        induction l generalizing r with
        | nil =>
          simp only [foldF, Option.some.injEq] at h
          subst h
          simp
        | cons i l ih =>
          simp only [foldF] at h
          obtain ⟨b, c, hb, hc, rfl⟩ := andF_some h
          obtain ⟨u, v, h1, h2, h3⟩ := step hb w
          simp only [List.forIn_cons, Sem.run_bind, h1, h2, h3, Result.andThen_ok]
          cases b with
          | false => simp
          | true =>
            have := ih c hc
            simpa using this
      · cases h
    · cases h

section
variable {P : Program} {n : Nat} {R : Act → World → Prop} {ops : Array Oper} {md : Option (World → Prop)} {l : List Oper} {tl : Act → World → Prop} {kk : List KI} {e : Env} {C : World → Prop}
variable {w0 : World} {m0 m : Mu} {Ls : List (List Ent)} {tb : Tab} {o : Oper} {α : Type} {k : Nat} {E : α → List Value}

theorem WO_eqA {T t2 : TypeId} {x y : Operand} (xs ys : List Value) {r : Bool} (hg : gd ops e o = some true) (hd : dstOk n o.dst = true) (hop : o.op = .binOp .eql T x y t2)
    (hx : ev e x = some (.agg xs.toArray)) (hy : ev e y = some (.agg ys.toArray)) (ha : aggT P T = true) (hgt : P.eqGuardType P.depth T = false) (hr : eqF P 5 T xs ys = some r)
    (h : WO P n R ops md l tl kk (setE e o.dst (.bool r)) C) : WO P n R ops md (o :: l) tl kk e C :=
  WO_quiet _ hg (by rw [hop]; rfl) hd (fun ac hac w _ => by
    have h1 := run_eqF (P := P) 9995 hr (x := .agg xs.toArray) (y := .agg ys.toArray) (by simp [wrapV, ha]) (by simp [wrapV, ha]) w
    unfold execOp
    simp only [hop, hac.ev hx, hac.ev hy, Sem.run_bind, run_eqGuard_agg w .eql T x y _ _ hgt, Result.andThen_ok, run_eql_struct, Sem.run_pure]
    rw [show (10000 : Nat) = 9995 + 5 from rfl, h1]
    rfl) h
theorem WO_neA {T t2 : TypeId} {x y : Operand} (xs ys : List Value) {r : Bool} (hg : gd ops e o = some true) (hd : dstOk n o.dst = true) (hop : o.op = .binOp .neq T x y t2)
    (hx : ev e x = some (.agg xs.toArray)) (hy : ev e y = some (.agg ys.toArray)) (ha : aggT P T = true) (hgt : P.eqGuardType P.depth T = false) (hr : eqF P 5 T xs ys = some r)
    (h : WO P n R ops md l tl kk (setE e o.dst (.bool !r)) C) : WO P n R ops md (o :: l) tl kk e C :=
  WO_quiet _ hg (by rw [hop]; rfl) hd (fun ac hac w _ => by
    have h1 := run_eqF (P := P) 9995 hr (x := .agg xs.toArray) (y := .agg ys.toArray) (by simp [wrapV, ha]) (by simp [wrapV, ha]) w
    unfold execOp
    simp only [hop, hac.ev hx, hac.ev hy, Sem.run_bind, run_eqGuard_agg w .neq T x y _ _ hgt, Result.andThen_ok, run_neq_struct, Sem.run_pure]
    rw [show (10000 : Nat) = 9995 + 5 from rfl, h1]
    rfl) h

/-! ### A call that is walked through in place -/

def InR (P : Program) (fn : Func) (n : Nat) (R : Act → World → Prop) (ops : Array Oper) (md : Option (World → Prop)) (l : List Oper) (tl : Act → World → Prop) (kk : List KI) (e : Env) (d : Option Tmp) : Act → World → Prop := fun a w =>
  a.defers = [] ∧ ∃ v, (results fn a.tmps).run P w = .ok v w ∧ MdIn md w ∧ ∀ ac, Ag ac n (setE e d v) → Lx P ops (wpK P R kk) md tl l ac w

theorem WO_inline {c : Call} {fx : Operand} {f : FuncId} {first cap : Array Value} {vs : List Value} {fn : Func} {body : Code} {n' : Nat} (hg : gd ops e o = some true) (hd : dstOk n o.dst = true) (hop : o.op = .call c) (hc : c.callee = .value fx)
    (hfx : ev e fx = some (.func (.func f) first cap)) (hargs : evs e c.args.toList = some vs) (hcal : Callable P f) (hf : P.funcs[f]? = some fn) (hb : fn.body = some body) (hn : fn.ntmps = n') (hlen : Nat.ble (first.toList ++ vs ++ cap.toList).length n' = true)
    (h : WK P n' (InR P fn n R ops md l tl kk e o.dst) [.code body] (argE 0 (first.toList ++ vs ++ cap.toList)) C) : WO P n R ops md (o :: l) tl kk e C := fun a w hag hw hmd => by
  have hlen' := Nat.le_of_ble_eq_true hlen
  simp only [Lx]
  rw [if_pos (gd_ok hag hg)]
  have hr := exec_call hop hc (hag.ev hfx) (hag.evs hargs) hcal w
  have key : Calls P f (first.toList ++ vs ++ cap.toList).toArray w (fun
      | .returned v, w'' => MdIn md w'' ∧ ∀ ac, Ag ac n (setE e o.dst v) → Lx P ops (wpK P R kk) md tl l ac w''
      | _, _ => False) := by
    refine calls_of_wp hf hb ?_
    have hag2 : Ag { tmps := (first.toList ++ vs ++ cap.toList).toArray ++ Array.replicate (fn.ntmps - (first.toList ++ vs ++ cap.toList).toArray.size) undef, defers := [] } n' (argE 0 (first.toList ++ vs ++ cap.toList)) := by
      refine ⟨rfl, by simp only [Array.size_append, List.size_toArray, Array.size_replicate, hn]; omega, fun i v hv => ?_⟩
      obtain ⟨k, hk, hv'⟩ := argE_ok _ 0 i v hv
      have hki : i = k := by omega
      subst hki
      have hlt : i < (first.toList ++ vs ++ cap.toList).length := (List.getElem?_eq_some_iff.1 hv').1
      rw [Array.getElem?_append_left (by rw [List.size_toArray]; exact hlt)]
      rw [List.getElem?_toArray]
      exact hv'
    refine wp_mono (h _ w hag2 hw) (fun ex a' w' hq => ?_)
    cases ex with
    | normal => exact hq
    | ret => exact hq
    | exit id => exact hq.elim
    | goto l => exact hq.elim
    | panic c => exact hq.elim
    | outgrown => exact hq.elim
  have fin : ∀ (Qp : List PanicEntry → World → Prop), Calls P f (first.toList ++ vs ++ cap.toList).toArray w (fun
      | .returned v, w'' => MdIn md w'' ∧ Lx P ops (wpK P R kk) md tl l (a.put o.dst v) w''
      | .panicked ch, w'' => Qp ch w''
      | .outgrown, _ => LetsOut (wpK P R kk)) := fun Qp => key.mono fun e' w' hq => by
    cases e' with
    | returned v => exact ⟨hq.1, hq.2 _ (hag.put hd v)⟩
    | panicked ch => exact hq.elim
    | outgrown => exact hq.elim
  cases md with
  | none =>
    show Oper.upon P o a _ _ ((execOp a.eval o).run P w)
    rw [hr]
    refine (fin (fun ch w => wpK P R kk (.panic ch) a w)).mono fun e' w' hq => ?_
    cases e' with
    | returned v => exact hq.2
    | panicked ch => exact hq
    | outgrown => exact hq
  | some S =>
    show (if qk o.op = true then _ else _)
    rw [if_neg (by rw [hop, qk_call hc]; simp)]
    show Oper.upon P o a _ _ ((execOp a.eval o).run P w)
    rw [hr]
    refine (fin (fun ch w => wpK P R kk (.panic ch) a w)).mono fun e' w' hq => ?_
    cases e' with
    | returned v => exact hq
    | panicked ch => exact hq
    | outgrown => exact hq

theorem St.back {w : World} {m' : Mu} {X : List (List Ent)} (h : St w0 m0 m' (Ls ++ X) w) (hl : Le m m') (h0 : Le m0 m) : St w0 m0 m Ls w := by
  have h1 : St w0 m0 m' Ls w := h.sub (by rw [List.flatten_append]; exact List.sublist_append_left _ _)
  refine ⟨h1.below, h0, fun b hb => ?_, h1.sat.le hl, ⟨fun x hx => ?_, h1.own.nd⟩⟩
  · refine h1.new b ?_
    cases hm : m b with
    | none => exact absurd hm hb
    | some q => rw [hl _ _ hm]; simp
  · obtain ⟨a1, a2, a3⟩ := h1.own.at_ x hx
    refine ⟨a1, a2, ?_⟩
    cases hm : m x.b with
    | none => rfl
    | some q => rw [hl _ _ hm] at a3; cases a3

theorem WK_retI {fn : Func} {n' : Nat} {e' : Env} {C' : World → Prop} {d : Option Tmp} {vs : List Value} {k' : List KI} (hr : RLc P n' e' C' fn.results.toList vs) (hS : ∀ w, C' w → MdIn md w)
    (h : WO P n R ops md l tl kk (setE e d (tup vs)) C') : WK P n' (InR P fn n R ops md l tl kk e d) (.code .ret :: k') e' C' :=
  WK_ret fun a w ha hw => ⟨ha.df, _, results_RL (hr a w ha hw), hS w hw, fun ac hac => h ac w hac hw (hS w hw)⟩
theorem WK_nilI {fn : Func} {n' : Nat} {e' : Env} {C' : World → Prop} {d : Option Tmp} {vs : List Value} (hr : RLc P n' e' C' fn.results.toList vs) (hS : ∀ w, C' w → MdIn md w)
    (h : WO P n R ops md l tl kk (setE e d (tup vs)) C') : WK P n' (InR P fn n R ops md l tl kk e d) [] e' C' :=
  WK_nil fun a w ha hw => ⟨ha.df, _, results_RL (hr a w ha hw), hS w hw, fun ac hac => h ac w hac hw (hS w hw)⟩

theorem WO_meet (e' : Env) (C' : World → Prop) (hrest : WO P n R ops md l tl kk e' C') (h : WO P n R ops md l tl kk e' C' → WO P n R ops md (o :: l) tl kk e C) : WO P n R ops md (o :: l) tl kk e C := h hrest
theorem WO_join {β : Type} (J : β → Prop) (e' : β → Env) (C' : β → World → Prop)
    (hrest : ∀ x, J x → WO P n R ops md l tl kk (e' x) (C' x)) (h : (∀ x, J x → WO P n R ops md l tl kk (e' x) (C' x)) → WO P n R ops md (o :: l) tl kk e C) : WO P n R ops md (o :: l) tl kk e C := h hrest

/-! ### A part of what the call owns -/

/-- Where a part of an owned slice lies. -/
def DstAt (v : Value) (k lo : Nat) (ao' : Option Addr) : Prop := ∀ b len cap, v = .slice (some ⟨b, 0, none⟩) len cap → lo < cap → ao' = some ⟨b, lo * k, none⟩
theorem DstAt.whole {ao : Option Addr} {len cap k : Nat} : DstAt (.slice ao len cap) k 0 ao := fun b l c h _ => by
  simp only [Value.slice.injEq] at h
  rw [h.1, Nat.zero_mul]

theorem WO_sliceV (htb : TabOk P tb) (hE : ∀ x, (E x).length = k) {T el : TypeId} {ti te : TI} {x : Operand} {xlo xhi : Option Operand} {T' : TypeId} {ao : Option Addr} {len cap : Nat} {xs : List α} {L : List Ent} (lo hi : Option Int) (lN hN : Nat) (hg : gd ops e o = some true) (hd : dstOk n o.dst = true)
    (hop : o.op = .slice T x xlo xhi none) (hx : ev e x = some (.slice ao len cap)) (h1 : evO e xlo = some (lo.map (.int .i64))) (h2 : evO e xhi = some (hi.map (.int .i64)))
    (hT : tget tb T = some ti) (hds : ti.desc = .slice el) (hel : tget tb el = some te) (hk : te.size = k) (hs : OwnE T' k E (.slice ao len cap) xs L) (hlo : lo.getD 0 = lN) (hhi : hi.getD len = hN) (hlh : lN ≤ hN) (hh : hN ≤ xs.length)
    (h : ∀ ao' cap', (∀ m', (∀ x ∈ L, m' x.b = some x.obj) → SlR (FE E) k m' (.slice ao' ((xs.take hN).drop lN).length cap') ((xs.take hN).drop lN)) → DstAt (.slice ao len cap) k lN ao' → WO P n R ops md l tl kk (setE e o.dst (.slice ao' ((xs.take hN).drop lN).length cap')) C) : WO P n R ops md (o :: l) tl kk e C := by
  have hq := hs.qlen
  subst hq
  have hcap : xs.length ≤ cap := by
    rcases hs with ⟨_, h3, rfl, _⟩ | ⟨_, _, _, h3, _, _, h4, _⟩
    · exact Nat.zero_le _
    · simp only [Value.slice.injEq] at h3; omega
  have hll : ((xs.take hN).drop lN).length = hN - lN := by rw [List.length_drop, List.length_take]; omega
  refine WO_quiet (.slice (if cap = lN then ao else ao.map (·.add (lN * k))) ((xs.take hN).drop lN).length (cap - lN)) hg (by rw [hop]; rfl) hd (fun a ha w _ => ?_) (h _ _ (fun m' hm => (hs.rd hE hm).part lN hN cap hlh hh (by omega) (Nat.le_refl _)) (fun b l c hv hc => by
    simp only [Value.slice.injEq] at hv
    obtain ⟨rfl, rfl, rfl⟩ := hv
    rw [if_neg (by omega)]
    show some ((⟨b, 0, none⟩ : Addr).add (lN * k)) = _
    rw [Addr.add_none rfl, Nat.zero_add]))
  have hr := run_slice htb hT hds hel ao xs.length cap lo hi none lN hN cap hlo hhi rfl hlh (by omega) (Nat.le_refl _) (fun hh => by cases hh) w
  rw [hk] at hr
  unfold execOp
  simp only [hop, ha.ev hx, Ag.evO ha h1, Ag.evO ha h2, Option.map_none, Sem.run_bind, hll, Sem.run_pure]
  rw [show (none : Option Value) = (none : Option Int).map (.int .i64) from rfl, hr]
  rfl

/-- What stands in segment j is told in segment i, whose own is let go. -/
theorem WK_move (i j : Nat) {L Lr : List Ent} (hL : Ls[i]? = some L) (hLr : Ls[j]? = some Lr) (hij : Nat.blt i j = true) (h : WK P n R kk e (St w0 m0 m ((Ls.set i Lr).set j []))) : WK P n R kk e (St w0 m0 m Ls) := by
  have hij' : i < j := by simpa [Nat.blt_eq] using hij
  refine h.cls fun w hw => ?_
  have h1 := hw.merge hij' hL hLr
  have hi : i < Ls.length := (List.getElem?_eq_some_iff.1 hL).1
  have h2 := h1.seg_as (i := i) (L := L ++ Lr) (L1 := L ++ Lr) (L2 := Lr) (by rw [List.getElem?_set_ne (by omega), List.getElem?_set_self hi]) (List.Perm.refl _) (List.sublist_append_right _ _)
  have e : ((Ls.set i (L ++ Lr)).set j []).set i Lr = (Ls.set i Lr).set j [] := by
    rw [List.set_comm _ _ (by omega : j ≠ i), List.set_set]
  rw [e] at h2
  exact h2

/-- A row of a table, read. -/
theorem OwnT.rowrd {T0 T1 : Nat} {v rv : Value} {vs : List Value} {xss : List (List α)} {L : List Ent} {i : Nat} {ys : List α} (hE : ∀ x, (E x).length = k) (h : OwnT T0 T1 k E v vs xss L) (hvs : vs[i]? = some rv) (hy : xss[i]? = some ys) {m' : Mu} (hm : ∀ x ∈ L, m' x.b = some x.obj) : SlR (FE E) k m' rv ys := by
  obtain ⟨Lo, Lrs, rfl, _, h3⟩ := h
  obtain ⟨u, Lr, hu, hLr, hr⟩ := h3.get hy
  rw [hvs] at hu
  obtain rfl := Option.some.inj hu
  exact hr.rd hE (fun x hx => hm x (List.mem_append_right _ (List.mem_flatten.2 ⟨Lr, List.mem_of_getElem? hLr, hx⟩)))

/-! ### Rows spread behind rows -/

theorem list_choose1 {β : Type} {Q : Nat → β → Prop} : ∀ n : Nat, (∀ i, i < n → ∃ y, Q i y) → ∃ xs : List β, xs.length = n ∧ ∀ (i : Nat) y, xs[i]? = some y → Q i y
  | 0, _ => ⟨[], rfl, fun i y h => by simp at h⟩
  | n + 1, h => by
    obtain ⟨xs, h1, h2⟩ := list_choose1 n (fun i hi => h i (by omega))
    obtain ⟨y, hy⟩ := h n (by omega)
    refine ⟨xs ++ [y], by simp [h1], fun i z hz => ?_⟩
    by_cases hi : i < n
    · rw [List.getElem?_append_left (by omega)] at hz
      exact h2 i z hz
    · have hlt := (List.getElem?_eq_some_iff.1 hz).1
      simp at hlt
      obtain rfl : i = n := by omega
      rw [List.getElem?_append_right (by omega)] at hz
      simp [h1] at hz
      subst hz
      exact hy

theorem All2.of_get {β γ : Type} {Q : β → γ → Prop} : ∀ {as : List β} {bs : List γ}, as.length = bs.length → (∀ (i : Nat) a b, as[i]? = some a → bs[i]? = some b → Q a b) → All2 Q as bs
  | [], [], _, _ => trivial
  | a :: as, b :: bs, hl, h => ⟨h 0 a b rfl rfl, All2.of_get (by simpa using hl) (fun i x y hx hy => h (i + 1) x y (by simpa using hx) (by simpa using hy))⟩
  | [], _ :: _, hl, _ => by simp at hl
  | _ :: _, [], hl, _ => by simp at hl

theorem SlR.raw1 {β : Type} {El : Mu → List Value → β → Prop} {m' : Mu} {v : Value} {ys : List β} (h : SlR El 1 m' v ys) : ∃ us : List Value, SlR (FE V1) 1 m' v us ∧ All2 (fun u x => El m' (V1 u) x) us ys := by
  obtain ⟨ao, cap, h1, h2, h3, h4, h5⟩ := h
  obtain ⟨us, w1, w2⟩ := list_choose1 (Q := fun (i : Nat) (u : Value) => (∃ x, ys[i]? = some x ∧ El m' [u] x) ∧ ∃ a cells T fr, ao = some a ∧ a.spot = none ∧ m' a.block = some (.cells cells T fr) ∧ cells[a.off + i]? = some u) ys.length (fun i hi => by
    obtain ⟨a, cells, T, fr, cs, q1, q2, q3, q4, q5, q6⟩ := h5 i ys[i] (List.getElem?_eq_getElem hi)
    match cs, q4 with
    | [u], _ =>
      refine ⟨u, ⟨_, List.getElem?_eq_getElem hi, q6⟩, a, cells, T, fr, q1, q2, q3, ?_⟩
      have := q5 0 u rfl
      simpa using this)
  refine ⟨us, ⟨ao, cap, by rw [w1]; exact h1, by omega, h3, h4, fun i u hu => ?_⟩, All2.of_get w1 (fun i u x hu hx => ?_)⟩
  · obtain ⟨_, a, cells, T, fr, q1, q2, q3, q4⟩ := w2 i u hu
    refine ⟨a, cells, T, fr, [u], q1, q2, q3, rfl, fun j u' hj => ?_, rfl⟩
    cases j with
    | zero =>
      simp only [List.getElem?_cons_zero, Option.some.injEq] at hj
      subst hj
      simpa using q4
    | succ j => simp at hj
  · obtain ⟨⟨y, hy, he⟩, _⟩ := w2 i u hu
    rw [hx] at hy
    cases hy
    exact he

theorem WO_appendSX {β : Type} {El : Mu → List Value → β → Prop} (htb : TabOk P tb) (si : Nat) {c : Call} {T el : TypeId} {ti te : TI} {v z : Value} {xs : List β} (ys : List β) {L : List Ent} {ad : Option Addr} {q cp : Nat} (hg : gd ops e o = some true) (hd : dstOk n o.dst = true) (hop : o.op = .call c)
    (hc : c.callee = .builtin .append) (hargs : evs e c.args.toList = some [v, .slice ad q cp]) (hty : c.argTypes.toList = [T, T]) (hT : tget tb T = some ti) (hds : ti.desc = .slice el) (hel : tget tb el = some te) (hk : te.size = 1) (hz : te.zero = some z) (hzs : z.cells.size = 1)
    (hone : ∀ cs x, El m cs x → cs.all Value.oneCell' = true) (ho : OwnX el 1 V1 El m v xs L) (hL : Ls[si]? = some L) (hsrc : SlR El 1 m (.slice ad q cp) ys) (hb : (xs.length + ys.length) * te.bytes ≤ 140737488355328) (hm : xs.length + ys.length ≤ maxLen)
    (h : ∀ ao cap L', OwnX el 1 V1 El m (.slice ao (xs ++ ys).length cap) (xs ++ ys) L' → WO P n R ops none l tl kk (setE e o.dst (.slice ao (xs ++ ys).length cap)) (St w0 m0 m (Ls.set si L'))) : WO P n R ops none (o :: l) tl kk e (St w0 m0 m Ls) := by
  obtain ⟨vs, h1, h3⟩ := ho
  obtain ⟨us, s1, s2⟩ := hsrc.raw1
  have hq := s1.qlen
  subst hq
  have e1 := h3.len
  have e2 := s2.len
  have e3 : (vs ++ us).length = (xs ++ ys).length := by simp [e1, e2]
  have hone' : ∀ u ∈ us, (V1 u).all Value.oneCell' = true := fun u hu => by
    obtain ⟨i, hi⟩ := List.getElem?_of_mem hu
    have hlt := (List.getElem?_eq_some_iff.1 hi).1
    obtain ⟨x, hx, hr⟩ := All2.get' s2 hi
    exact hone _ _ hr
  have goal : ∀ ao cap L', OwnE el 1 V1 (.slice ao (vs ++ us).length cap) (vs ++ us) L' → WO P n R ops none l tl kk (setE e o.dst (.slice ao (vs ++ us).length cap)) (St w0 m0 m (Ls.set si L')) := fun ao cap L' hL' => by
    rw [e3] at hL' ⊢
    exact h ao cap L' ⟨_, hL', h3.app s2⟩
  cases ad with
  | some a0 =>
    exact WO_append (E := V1) htb (fun _ => rfl) si us hone' hg hd hop hc hargs hty hT hds hel hk hz hzs h1 hL (fun w hw => src_read (E := V1) (by decide) (fun _ => rfl) s1 hw.sat) (by rw [e1, e2]; exact hb) (by rw [e1, e2]; exact hm) goal
  | none =>
    obtain ⟨hus, hq0, hcp⟩ := s1.none_nil
    subst hus
    have hys : ys = [] := List.eq_nil_of_length_eq_zero (by rw [← e2]; rfl)
    refine WO_write (fun _ : Unit => v) (fun _ => St w0 m0 m Ls) hg hd (fun a w ha hw => ⟨(), w, .inl ?_, hw⟩) (fun _ => ?_)
    · obtain ⟨ao, cap, hv⟩ := h1.shape
      have hlc : vs.length ≤ cap := by
        rcases h1 with ⟨_, hv2, rfl, _⟩ | ⟨_, _, _, hv2, _, _, h4, _⟩
        · exact Nat.zero_le _
        · rw [hv] at hv2
          simp only [Value.slice.injEq] at hv2
          omega
      obtain ⟨f, hf, _⟩ := (htb _ _ hel).typeInfo
      have ht : P.underlying T = some (.slice el) := by rw [(htb _ _ hT).und, hds]
      have hr := run_append_none (P := P) T o.type el f ht hf ao vs.length cap cp hlc w
      rw [← hv] at hr
      exact exec_append hop hc (ha.evs hargs) hty (by simpa using hr)
    · obtain ⟨ao, cap, hv⟩ := h1.shape
      have := goal ao cap L (by simpa [← hv] using h1)
      rw [List.append_nil, ← hv] at this
      have hset : Ls.set si L = Ls := by
        apply List.ext_getElem?
        intro j
        by_cases hj : si = j
        · subst hj; rw [hL, List.getElem?_set_self (List.getElem?_eq_some_iff.1 hL).1]
        · rw [List.getElem?_set_ne hj]
      rw [hset] at this
      exact this

/-- Rows are one cell each. -/
theorem row_one {β : Type} {El : Mu → List Value → β → Prop} {k' : Nat} {m' : Mu} : ∀ cs (x : List β), RowE El k' m' cs x → cs.all Value.oneCell' = true := fun cs x h => by
  obtain ⟨v, rfl, hs⟩ := h
  obtain ⟨ao, cap, rfl, _⟩ := hs.len
  rfl

end
end Go.E
