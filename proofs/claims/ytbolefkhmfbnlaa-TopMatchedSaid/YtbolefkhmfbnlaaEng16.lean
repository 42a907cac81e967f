/-
  ENGINE: parts of an owned slice that outlive writes; calls that change what the caller owns; global tables.
-/
import Derived.Test.YtbolefkhmfbnlaaEng15
set_option linter.unusedVariables false
namespace Go.E
open Go.RowKit

/-! ### Parts -/

/-- The slice u is the part [lo, lo + len) of v: told of the headers alone. -/
def Vw (v : Value) (k lo len : Nat) (u : Value) : Prop := 0 < len ∧ ∃ ao n c q, v = .slice ao n c ∧ lo + len ≤ q ∧ q ≤ c ∧ u = .slice (ao.map (·.add (lo * k))) len (q - lo)

section
variable {α : Type} {T k lo len : Nat} {E : α → List Value} {v u : Value} {xs : List α} {L : List Ent}
theorem Vw.eqlen {a : Option Addr} {n c : Nat} (h : Vw v k lo len (.slice a n c)) : n = len := by
  obtain ⟨_, _, _, _, _, _, _, _, h4⟩ := h
  simp only [Value.slice.injEq] at h4
  exact h4.2.1
theorem Vw.rd (hE : ∀ x, (E x).length = k) (h : Vw v k lo len u) (ho : OwnE T k E v xs L) {m : Mu} (hm : ∀ x ∈ L, m x.b = some x.obj) (hb : lo + len ≤ xs.length) : SlR (FE E) k m u ((xs.take (lo + len)).drop lo) := by
  obtain ⟨h0, ao, n, c, q, rfl, h1, h2, rfl⟩ := h
  have hq := ho.qlen
  subst hq
  have hp := (ho.rd hE hm).part lo (lo + len) q (by omega) hb h1 h2
  have hl : ((xs.take (lo + len)).drop lo).length = len := by rw [List.length_drop, List.length_take]; omega
  rw [if_neg (by omega), hl] at hp
  exact hp
theorem Vw.dst {a : Option Addr} {n c : Nat} (h : Vw v k lo len (.slice a n c)) : DstAt v k lo a := by
  obtain ⟨h0, ao, n', c', q, rfl, h1, h2, h3⟩ := h
  simp only [Value.slice.injEq] at h3
  obtain ⟨rfl, _, _⟩ := h3
  intro b l c hv hc
  simp only [Value.slice.injEq] at hv
  obtain ⟨rfl, _, _⟩ := hv
  show some ((⟨b, 0, none⟩ : Addr).add (lo * k)) = _
  rw [Addr.add_none rfl, Nat.zero_add]
theorem Vw.base (h : Vw v k lo len u) (ho : OwnE T k E v xs L) : ∃ b cap q, v = .slice (some ⟨b, 0, none⟩) xs.length cap ∧ u = .slice (some ⟨b, lo * k, none⟩) len (q - lo) := by
  obtain ⟨h0, ao, n, c, q, rfl, h1, h2, rfl⟩ := h
  rcases ho with ⟨ao', h3, _, _⟩ | ⟨b, cap, rest, h3, _⟩
  · simp only [Value.slice.injEq] at h3
    omega
  · simp only [Value.slice.injEq] at h3
    obtain ⟨rfl, rfl, rfl⟩ := h3
    refine ⟨b, c, q, rfl, ?_⟩
    show Value.slice (some ((⟨b, 0, none⟩ : Addr).add (lo * k))) _ _ = _
    rw [Addr.add_none rfl, Nat.zero_add]
theorem Vw.addr (h : Vw v k lo len u) (ho : OwnE T k E v xs L) : AddrAt u len := fun _ => by
  obtain ⟨b, cap, q, _, rfl⟩ := h.base ho
  exact ⟨_, _, rfl⟩
theorem Vw.eaddr (h : Vw v k lo len u) (ho : OwnE T k E v xs L) (i : Nat) : eAddr u k i = eAddr v k (lo + i) := by
  obtain ⟨b, cap, q, rfl, rfl⟩ := h.base ho
  show (⟨b, lo * k, none⟩ : Addr).add (i * k) = (⟨b, 0, none⟩ : Addr).add ((lo + i) * k)
  rw [Addr.add_none rfl, Addr.add_none rfl, Nat.zero_add, Nat.add_mul]
end

section
variable {P : Program} {n : Nat} {R : Act → World → Prop} {ops : Array Oper} {md : Option (World → Prop)} {l : List Oper} {tl : Act → World → Prop} {kk : List KI} {e : Env} {C : World → Prop}
variable {w0 : World} {m0 m : Mu} {Ls : List (List Ent)} {tb : Tab} {o : Oper} {α : Type} {k : Nat} {E : α → List Value}

theorem WO_sliceW (htb : TabOk P tb) {T el : TypeId} {ti te : TI} {x : Operand} {xlo xhi xmx : Option Operand} {T' : TypeId} {ao : Option Addr} {len cap : Nat} {xs : List α} {L : List Ent} (lo hi mx : Option Int) (lN ln : Nat) (hg : gd ops e o = some true) (hd : dstOk n o.dst = true)
    (hop : o.op = .slice T x xlo xhi xmx) (hx : ev e x = some (.slice ao len cap)) (h1 : evO e xlo = some (lo.map (.int .i64))) (h2 : evO e xhi = some (hi.map (.int .i64))) (h3 : evO e xmx = some (mx.map (.int .i64)))
    (hT : tget tb T = some ti) (hds : ti.desc = .slice el) (hel : tget tb el = some te) (hk : te.size = k) (hs : OwnE T' k E (.slice ao len cap) xs L) (hlo : lo.getD 0 = lN) (hhi : hi.getD len = (lN + ln : Nat)) (hmx : ∀ q, mx = some q → ((lN + ln : Nat) : Int) ≤ q ∧ q ≤ xs.length) (hlh : 0 < ln) (hh : lN + ln ≤ xs.length) (hmh : mx.isSome = true → hi.isSome = true)
    (h : ∀ ao' cap', Vw (.slice ao len cap) k lN ln (.slice ao' ln cap') → WO P n R ops md l tl kk (setE e o.dst (.slice ao' ln cap')) C) : WO P n R ops md (o :: l) tl kk e C := by
  have hq := hs.qlen
  subst hq
  have hcap : xs.length ≤ cap := by
    rcases hs with ⟨_, h3, rfl, _⟩ | ⟨_, _, _, h3, _, _, h4, _⟩
    · exact Nat.zero_le _
    · simp only [Value.slice.injEq] at h3; omega
  have key : ∃ q : Nat, mx.getD cap = q ∧ lN + ln ≤ q ∧ q ≤ cap := by
    cases mx with
    | none => exact ⟨cap, rfl, by omega, Nat.le_refl _⟩
    | some q =>
      obtain ⟨a1, a2⟩ := hmx q rfl
      exact ⟨q.toNat, by simp only [Option.getD_some]; omega, by omega, by omega⟩
  obtain ⟨q, hq, hq1, hq2⟩ := key
  refine WO_quiet (.slice (ao.map (·.add (lN * k))) ln (q - lN)) hg (by rw [hop]; rfl) hd (fun a ha w _ => ?_) (h _ _ ⟨by omega, ao, xs.length, cap, q, rfl, by omega, hq2, rfl⟩)
  have hr := run_slice htb hT hds hel ao xs.length cap lo hi mx lN (lN + ln) q hlo hhi hq (by omega) hq1 hq2 hmh w
  rw [hk, if_neg (by omega), Nat.add_sub_cancel_left] at hr
  unfold execOp
  simp only [hop, ha.ev hx, Ag.evO ha h1, Ag.evO ha h2, Ag.evO ha h3, Sem.run_bind, hr, Result.andThen_ok, Sem.run_pure]

theorem WO_loadW (htb : TabOk P tb) (hE : ∀ x, (E x).length = k) (si : Nat) {T T' : TypeId} {x : Operand} {v v' u : Value} {xs : List α} {L : List Ent} {lo len i : Nat} {y : α} {w0' : World} {m0' m' : Mu} {Ls' : List (List Ent)} (hg : gd ops e o = some true) (hd : dstOk n o.dst = true) (hop : o.op = .load T x)
    (hx : ev e x = some (.pointer (some (eAddr v' k i)))) (hF : ∀ w, (md.getD C) w → St w0' m0' m' Ls' w) (ho : OwnE T' k E v xs L) (hw : Vw v k lo len v') (hL : Ls'[si]? = some L) (hy : xs[lo + i]? = some y) (hv : bload tb T (E y) 0 = some u)
    (h : WO P n R ops md l tl kk (setE e o.dst u) C) : WO P n R ops md (o :: l) tl kk e C :=
  WO_loadO htb hE si hg hd hop (by rw [hx, hw.eaddr ho]) hF ho hL hy hv h

theorem WO_storeW (htb : TabOk P tb) (hE : ∀ x, (E x).length = k) (si : Nat) {T T' : TypeId} {te : TI} {p x : Operand} {v v' u : Value} {xs : List α} {L : List Ent} {lo len i : Nat} (y : α) (hg : gd ops e o = some true) (hd : dstOk n o.dst = true) (hop : o.op = .store T p x)
    (hp : ev e p = some (.pointer (some (eAddr v' k i)))) (hx : ev e x = some u) (ho : OwnE T' k E v xs L) (hw : Vw v k lo len v') (hL : Ls[si]? = some L) (hi : lo + i < xs.length) (hT : tget tb T = some te) (hk : te.size = k) (hu : u.cells.toList = E y) (h1 : (E y).all Value.oneCell' = true)
    (h : ∀ L', OwnE T' k E v (xs.set (lo + i) y) L' → WO P n R ops none l tl kk (setE e o.dst undef) (St w0 m0 m (Ls.set si L'))) : WO P n R ops none (o :: l) tl kk e (St w0 m0 m Ls) :=
  WO_storeO htb hE si y hg hd hop (by rw [hp, hw.eaddr ho]) hx ho hL hi hT hk hu h1 h

/-! ### Calls that change what the caller owns -/

def SpecS (P : Program) (f : FuncId) (args : List Value) (C : World → Prop) (Q : Value → World → Prop) : Prop :=
  ∀ w, C w → Calls P f args.toArray w (fun e w' => ∃ v, e = .returned v ∧ Q v w')
def RetS (P : Program) (fn : Func) (Q : Value → World → Prop) (a : Act) (w : World) : Prop := a.defers = [] ∧ ∃ v, (results fn a.tmps).run P w = .ok v w ∧ Q v w

theorem SpecS_enter {f : FuncId} {fn : Func} {c : Code} {n : Nat} {args : List Value} {Q : Value → World → Prop} (hf : P.funcs[f]? = some fn) (hb : fn.body = some c) (hn : fn.ntmps = n)
    (hlen : Nat.ble args.length n = true) (h : WK P n (RetS P fn Q) [.code c] (argE 0 args) C) : SpecS P f args C Q := by
  intro w hw
  have hlen' : args.length ≤ n := Nat.le_of_ble_eq_true hlen
  refine calls_of_wp hf hb ?_
  have hag : Ag { tmps := args.toArray ++ Array.replicate (fn.ntmps - args.toArray.size) undef, defers := [] } n (argE 0 args) := by
    refine ⟨rfl, by simp [hn]; omega, fun i v hv => ?_⟩
    obtain ⟨k, hk, hv'⟩ := argE_ok args 0 i v hv
    have hki : i = k := by omega
    subst hki
    have hlt : i < args.length := (List.getElem?_eq_some_iff.1 hv').1
    rw [Array.getElem?_append_left (by simpa using hlt)]
    simpa using hv'
  refine wp_mono (h _ w hag hw) (fun ex a' w' hq => ?_)
  cases ex with
  | normal =>
    obtain ⟨hd, v, h1, h2⟩ := hq
    exact ⟨hd, v, h1, v, rfl, h2⟩
  | ret =>
    obtain ⟨hd, v, h1, h2⟩ := hq
    exact ⟨hd, v, h1, v, rfl, h2⟩
  | exit id => exact hq.elim
  | goto l => exact hq.elim
  | panic c => exact hq.elim
  | outgrown => exact hq.elim

theorem WK_retS {fn : Func} {e' : Env} {C' : World → Prop} {vs : List Value} {k' : List KI} {Q : Value → World → Prop} (hr : RLc P n e' C' fn.results.toList vs) (hQ : ∀ w, C' w → Q (tup vs) w) : WK P n (RetS P fn Q) (.code .ret :: k') e' C' :=
  WK_ret fun a w ha hw => ⟨ha.df, _, results_RL (hr a w ha hw), hQ w hw⟩
theorem WK_nilS {fn : Func} {e' : Env} {C' : World → Prop} {vs : List Value} {Q : Value → World → Prop} (hr : RLc P n e' C' fn.results.toList vs) (hQ : ∀ w, C' w → Q (tup vs) w) : WK P n (RetS P fn Q) [] e' C' :=
  WK_nil fun a w ha hw => ⟨ha.df, _, results_RL (hr a w ha hw), hQ w hw⟩

theorem WO_callS {G : Type} {c : Call} {fx : Operand} {f : FuncId} {first cap : Array Value} {vs : List Value} (val : G → Value) (J : G → Prop) (C' : G → World → Prop) (hg : gd ops e o = some true) (hd : dstOk n o.dst = true) (hop : o.op = .call c) (hc : c.callee = .value fx)
    (hfx : ev e fx = some (.func (.func f) first cap)) (hargs : evs e c.args.toList = some vs) (hcal : Callable P f)
    (hs : SpecS P f (first.toList ++ vs ++ cap.toList) C (fun v w => ∃ g, v = val g ∧ J g ∧ C' g w))
    (h : ∀ g, J g → WO P n R ops none l tl kk (setE e o.dst (val g)) (C' g)) : WO P n R ops none (o :: l) tl kk e C := fun a w hag hw hmd => by
  simp only [Lx]
  rw [if_pos (gd_ok hag hg)]
  have hr := exec_call hop hc (hag.ev hfx) (hag.evs hargs) hcal w
  show Oper.upon P o a _ _ ((execOp a.eval o).run P w)
  rw [hr]
  refine Calls.mono (hs w hw) fun e' w' hq => ?_
  obtain ⟨v, rfl, g, rfl, hj, hC⟩ := hq
  exact h g hj (a.put o.dst (val g)) w' (hag.put hd _) hC trivial

/-! ### Arrays that stand, at an open index -/

theorem run_indexG (htb : TabOk P tb) {T el len : Nat} {ti te : TI} (hT : tget tb T = some ti) (hds : ti.desc = .array len el) (hel : tget tb el = some te) {a : Addr} {kd : IntKind} {z : Int} (hz : 0 ≤ z ∧ z < (len : Int)) (w : World) :
    (Instr.indexAt T (.pointer (some a)) (.int kd z)).run P w = .ok (.pointer (some (a.add (z.toNat * te.size)))) w := by
  have hu := (htb _ _ hT).run_und w
  rw [hds] at hu
  have hs := (htb _ _ hel).run_size w
  unfold Instr.indexAt
  simp [asIntOf, hu, hs, hz, Instr.sureAddr]
theorem WO_indexG (htb : TabOk P tb) {T el len : Nat} {ti te : TI} {x ix : Operand} {b off : Nat} {kd : IntKind} {z : Int} (hg : gd ops e o = some true) (hd : dstOk n o.dst = true) (hop : o.op = .indexAddr T x ix)
    (hx : ev e x = some (.pointer (some ⟨b, off, none⟩))) (hix : ev e ix = some (.int kd z)) (hT : tget tb T = some ti) (hds : ti.desc = .array len el) (hel : tget tb el = some te) (hz : 0 ≤ z ∧ z < (len : Int))
    (h : WO P n R ops md l tl kk (setE e o.dst (.pointer (some ⟨b, off + z.toNat * te.size, none⟩))) C) : WO P n R ops md (o :: l) tl kk e C :=
  WO_quiet _ hg (by rw [hop]; rfl) hd (fun a ha w _ => by
    unfold execOp
    simp only [hop, ha.ev hx, ha.ev hix, Sem.run_bind, run_indexG htb hT hds hel hz w, Result.andThen_ok, Sem.run_pure]
    rw [Addr.add_none rfl]) h
theorem mget {q : IntKind} {ys : List Int} {i : Nat} {y : Int} (h : ys[i]? = some y) : (ys.map (Value.int q))[i]? = some (.int q y) := by simp [h]

/-! ### A field of an aggregate; a cell of an element -/

theorem WO_field (htb : TabOk P tb) {T el : Nat} {ti tf : TI} {fs : Array Field} {f : Field} {x : Operand} {cs : List Value} {i : Nat} {v : Value} (hg : gd ops e o = some true) (hd : dstOk n o.dst = true) (hcl : MdCl md) (hop : o.op = .field T x i)
    (hx : ev e x = some (.agg cs.toArray)) (hT : tget tb T = some ti) (hds : ti.desc = .struct fs) (hf : fs[i]? = some f) (htf : tget tb f.type = some tf) (hdf : tf.desc = .slice el) (hv : cs[f.offset]? = some v)
    (h : WO P n R ops md l tl kk (setE e o.dst v) C) : WO P n R ops md (o :: l) tl kk e C :=
  WO_act (fun _ : Unit => v) (fun _ => C) hg (by rw [hop]; rfl) hd hcl
    (fun a w ha hw => ⟨(), w, by
      have hu := (htb _ _ hT).run_und w
      have hue := (htb _ _ htf).run_und w
      rw [hds] at hu
      rw [hdf] at hue
      have hagg : (isAgg f.type).run P w = .ok false w := by
        unfold isAgg
        simp only [Sem.run_bind, hue, Result.andThen_ok]
        rfl
      have hc : (cs.toArray)[f.offset]? = some v := by simp [hv]
      unfold execOp
      simp only [hop, ha.ev hx, Instr.field, asAgg, Sem.run_bind, Sem.run_pure, Result.andThen_ok, hu, hf, part, hagg, hc, Bool.false_eq_true, if_false], Ext.refl w, hw⟩) (fun _ => h)

theorem WO_loadOI (htb : TabOk P tb) (hE : ∀ x, (E x).length = k) (si c : Nat) {T T' : TypeId} {x : Operand} {v u : Value} {xs : List α} {L : List Ent} {i : Nat} {y : α} {w0' : World} {m0' m' : Mu} {Ls' : List (List Ent)} (hg : gd ops e o = some true) (hd : dstOk n o.dst = true) (hop : o.op = .load T x)
    (hx : ev e x = some (.pointer (some ((eAddr v k i).add c)))) (hF : ∀ w, (md.getD C) w → St w0' m0' m' Ls' w) (ho : OwnE T' k E v xs L) (hL : Ls'[si]? = some L) (hy : xs[i]? = some y) (hv : bload tb T ((E y).drop c) 0 = some u)
    (h : WO P n R ops md l tl kk (setE e o.dst u) C) : WO P n R ops md (o :: l) tl kk e C :=
  WO_loadG hg hd hop hx (fun w hw => by
    have hst := hF w hw
    rcases ho with ⟨ao, rfl, rfl, _⟩ | ⟨b, cap, rest, rfl, rfl, h3, h4, h5⟩
    · simp at hy
    · refine run_load_cells htb hv (fun j q hq => ?_)
      rw [List.getElem?_drop] at hq
      have hj : c + j < k := by rw [← hE y]; exact (List.getElem?_eq_some_iff.1 hq).1
      have h6 := fm_get hE xs i y (c + j) hy hj
      rw [hq] at h6
      show w.cell? ((((⟨b, 0, none⟩ : Addr).add (i * k)).add c).add j) = some q
      rw [show (((⟨b, 0, none⟩ : Addr).add (i * k)).add c).add j = ⟨b, 0 + i * k + c + j, none⟩ from by rw [Addr.add_none (a := ⟨b, 0, none⟩) rfl, Addr.add_none (a := ⟨b, 0 + i * k, none⟩) rfl, Addr.add_none (a := ⟨b, 0 + i * k + c, none⟩) rfl]]
      refine seg_cells hst hL ?_
      rw [Nat.zero_add, Nat.add_assoc, List.getElem?_append_left (List.getElem?_eq_some_iff.1 h6).1]
      exact h6) h

/-! ### A byte of a string -/

theorem WO_indexS {T : TypeId} {x i : Operand} {bs : ByteArray} {kd : IntKind} {z : Int} {b : UInt8} (hg : gd ops e o = some true) (hd : dstOk n o.dst = true) (hcl : MdCl md) (hop : o.op = .index T x i)
    (hx : ev e x = some (.string bs)) (hi : ev e i = some (.int kd z)) (hu : ∀ w, (underlying T).run P w = .ok .string w) (hz : 0 ≤ z) (hb : bs[z.toNat]? = some b)
    (h : WO P n R ops md l tl kk (setE e o.dst (.int .u8 (b.toNat : Int))) C) : WO P n R ops md (o :: l) tl kk e C :=
  WO_act (fun _ : Unit => .int .u8 (b.toNat : Int)) (fun _ => C) hg (by rw [hop]; rfl) hd hcl
    (fun a w ha hw => ⟨(), w, by
      unfold execOp
      simp only [hop, ha.ev hx, ha.ev hi, Instr.index, asIntOf, Sem.run_bind, Sem.run_pure, Result.andThen_ok, hu w, if_pos hz, hb], Ext.refl w, hw⟩) (fun _ => h)
end
theorem perm_rest (A B : List (List Ent)) : (A ++ B).flatten.Perm (A ++ [B.flatten]).flatten := by simp

end Go.E
