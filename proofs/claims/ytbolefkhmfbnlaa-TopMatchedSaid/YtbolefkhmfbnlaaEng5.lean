/-
  THE ENGINE, 5: contracts; the rules for memory: boxes, loads, stores, calls, the way in and the way out.
-/
import Derived.Test.YtbolefkhmfbnlaaEng4
namespace Go.E
open Go.RowKit

def Callable (P : Program) (f : FuncId) : Prop := ∀ args w, (callFunc f args).run P w = .ok (.enter f args) w

theorem callable_of {P : Program} {f : FuncId} {fn : Func} (hf : P.funcs[f]? = some fn) (hn : (fn.name == "runtime.NumGoroutine") = false) (hb : fn.body.isNone = false) : Callable P f := by
  intro args w
  have hn' : fn.name ≠ "runtime.NumGoroutine" := by simpa using hn
  cases hbody : fn.body with
  | none => simp [hbody] at hb
  | some c =>
    unfold callFunc program
    simp [Sem.run, hf, hn', hbody]

def Spec (P : Program) (f : FuncId) (args : List Value) (m : Mu) (Rr : Value → Mu → List Ent → Prop) : Prop :=
  ∀ w, Sat m w → Calls P f args.toArray w fun e w' => ∃ v m' L, e = .returned v ∧ Ext w w' ∧ Le m m' ∧ NewOnly w.heap.size m m' ∧ Sat m' w' ∧ OwnL m' w.heap.size L w' ∧ Rr v m' L

def SpecV (P : Program) (fv : Value) (args : List Value) (m : Mu) (Rr : Value → Mu → List Ent → Prop) : Prop :=
  ∃ f first cap, fv = .func (.func f) first cap ∧ Callable P f ∧ Spec P f (first.toList ++ args ++ cap.toList) m Rr

theorem Spec.mono {P : Program} {f : FuncId} {args : List Value} {m : Mu} {Rr Rr' : Value → Mu → List Ent → Prop} (h : Spec P f args m Rr) (hr : ∀ v m' L, Le m m' → Rr v m' L → Rr' v m' L) : Spec P f args m Rr' :=
  fun w hw => (h w hw).mono fun _ _ ⟨v, m', L, h1, h2, h3, h4, h5, h6, h7⟩ => ⟨v, m', L, h1, h2, h3, h4, h5, h6, hr _ _ _ h3 h7⟩

theorem specV_func {P : Program} {f : FuncId} {args : List Value} {m : Mu} {Rr : Value → Mu → List Ent → Prop} (hc : Callable P f) (h : Spec P f args m Rr) : SpecV P (.func (.func f) #[] #[]) args m Rr :=
  ⟨f, #[], #[], rfl, hc, by simpa using h⟩
theorem specV_cap {P : Program} {f : FuncId} {args cap : List Value} {m : Mu} {Rr : Value → Mu → List Ent → Prop} (hc : Callable P f) (h : Spec P f (args ++ cap) m Rr) : SpecV P (.func (.func f) #[] cap.toArray) args m Rr :=
  ⟨f, #[], cap.toArray, rfl, hc, by simpa using h⟩

/-! ### The way in and the way out -/

def argE : Nat → List Value → Env
  | _, [] => []
  | i, v :: l => (i, v) :: argE (i + 1) l

theorem argE_ok : ∀ (l : List Value) (i j : Nat) (v : Value), look (argE i l) j = some v → ∃ k, j = i + k ∧ l[k]? = some v
  | [], i, j, v, h => by simp [argE, look] at h
  | u :: l, i, j, v, h => by
    simp only [argE, look] at h
    cases hb : Nat.beq i j with
    | true =>
      simp only [hb, cond_true, Option.some.injEq] at h
      exact ⟨0, by rw [Nat.add_zero]; exact (Nat.eq_of_beq_eq_true hb).symm, by simp [h]⟩
    | false =>
      simp only [hb, cond_false] at h
      obtain ⟨k, hk, hv⟩ := argE_ok l (i + 1) j v h
      exact ⟨k + 1, by omega, by simpa using hv⟩

def Ret (P : Program) (fn : Func) (w0 : World) (m0 : Mu) (Rr : Value → Mu → List Ent → Prop) (a : Act) (w : World) : Prop :=
  a.defers = [] ∧ ∃ v m' L, (results fn a.tmps).run P w = .ok v w ∧ Below w0.heap.size w0 w ∧ Le m0 m' ∧ NewOnly w0.heap.size m0 m' ∧ Sat m' w ∧ OwnL m' w0.heap.size L w ∧ Rr v m' L

theorem Spec_enter {P : Program} {f : FuncId} {fn : Func} {c : Code} {n : Nat} {args : List Value} {m : Mu} {Rr : Value → Mu → List Ent → Prop} (hf : P.funcs[f]? = some fn) (hb : fn.body = some c) (hn : fn.ntmps = n)
    (hlen : Nat.ble args.length n = true) (h : ∀ w0, WK P n (Ret P fn w0 m Rr) [.code c] (argE 0 args) (St w0 m m [])) : Spec P f args m Rr := by
  intro w hw
  have hlen' : args.length ≤ n := Nat.le_of_ble_eq_true hlen
  refine calls_of_wp hf hb ?_
  have hag : Ag { tmps := args.toArray ++ Array.replicate (fn.ntmps - args.toArray.size) undef, defers := [] } n (argE 0 args) := by
    refine ⟨rfl, by simp [hn]; omega, fun i v hv => ?_⟩
    obtain ⟨k, hk, hv'⟩ := argE_ok args 0 i v hv
    have hki : i = k := by omega
    subst hki
    have hlt : i < args.length := (List.getElem?_eq_some_iff.1 hv').1
    rw [Array.getElem?_append_left (by simpa using hlt)]
    simpa using hv'
  refine wp_mono (h w _ w hag (St.start w hw)) (fun ex a' w' hq => ?_)
  cases ex with
  | normal =>
    obtain ⟨hd, v, m', L, h1, h2, h3, h4, h5, h6, h7⟩ := hq
    exact ⟨hd, v, h1, v, m', L, rfl, h2, h3, h4, h5, h6, h7⟩
  | ret =>
    obtain ⟨hd, v, m', L, h1, h2, h3, h4, h5, h6, h7⟩ := hq
    exact ⟨hd, v, h1, v, m', L, rfl, h2, h3, h4, h5, h6, h7⟩
  | exit id => exact hq.elim
  | goto l => exact hq.elim
  | panic c => exact hq.elim
  | outgrown => exact hq.elim

def RL (P : Program) (w : World) (tmps : Array Value) : List ResultVar → List Value → Prop
  | [], [] => True
  | .tmp t :: r, v :: vs => tmps.getD t undef = v ∧ RL P w tmps r vs
  | .cell t T :: r, v :: vs => (∃ ad, tmps.getD t undef = .pointer (some ad) ∧ (loadVar T ad).run P w = .ok v w) ∧ RL P w tmps r vs
  | _, _ => False

theorem RL_run {P : Program} {w : World} {tmps : Array Value} (f : ResultVar → Sem Value) (hf1 : ∀ t, f (.tmp t) = pure (tmps.getD t undef)) (hf2 : ∀ a t, f (.cell a t) = (do loadVar t (← asAddr (tmps.getD a undef)))) :
    ∀ {r : List ResultVar} {vs : List Value}, RL P w tmps r vs → (r.mapM f).run P w = .ok vs w
  | [], [], _ => rfl
  | .tmp t :: r, v :: vs, h => by
    simp only [List.mapM_cons, Sem.run_bind, hf1, Sem.run_pure, Result.andThen_ok, RL_run f hf1 hf2 h.2, h.1]
  | .cell t T :: r, v :: vs, h => by
    obtain ⟨⟨ad, h1, h2⟩, h3⟩ := h
    have ha : (asAddr (.pointer (some ad))).run P w = .ok ad w := rfl
    simp only [List.mapM_cons, Sem.run_bind, hf2, h1, ha, Sem.run_pure, Result.andThen_ok, h2, RL_run f hf1 hf2 h3]
  | [], _ :: _, h => h.elim
  | .tmp _ :: _, [], h => h.elim
  | .cell _ _ :: _, [], h => h.elim

def tup : List Value → Value
  | [v] => v
  | vs => .tuple vs.toArray

theorem results_RL {P : Program} {w : World} {fn : Func} {tmps : Array Value} {vs : List Value} (h : RL P w tmps fn.results.toList vs) : (results fn tmps).run P w = .ok (tup vs) w := by
  unfold results
  rw [Array.mapM_eq_mapM_toList]
  simp only [Sem.run_bind, Sem.run_map]
  rw [RL_run _ (fun _ => rfl) (fun _ _ => rfl) h]
  simp only [Result.andThen_ok]
  match vs with
  | [] => rfl
  | [v] => rfl
  | v :: u :: vs => simp [tup]

section
variable {P : Program} {n : Nat} {R : Act → World → Prop} {ops : Array Oper} {md : Option (World → Prop)} {l : List Oper} {tl : Act → World → Prop} {k : List KI} {e : Env} {C : World → Prop}
variable {w0 : World} {m0 m : Mu} {Ls : List (List Ent)} {tb : Tab} {o : Oper}

/-! ### Cells that are known one by one -/

def bload (tb : Tab) (T : TypeId) (cs : List Value) (off : Nat) : Option Value :=
  match tget tb T with
  | some i => match i.desc with
    | .struct _ => cond (Nat.beq ((cs.drop off).take i.size).length i.size) (some (.agg ((cs.drop off).take i.size).toArray)) none
    | .array _ _ => cond (Nat.beq ((cs.drop off).take i.size).length i.size) (some (.agg ((cs.drop off).take i.size).toArray)) none
    | _ => cs[off]?
  | none => none

/-- What a load at 'ad' gives where the cells from 'ad' on are 'cs'. -/
theorem run_load_cells (htb : TabOk P tb) {T : TypeId} {cs : List Value} {v : Value} (hv : bload tb T cs 0 = some v) {ad : Addr} {w : World} (hc : ∀ (j : Nat) u, cs[j]? = some u → w.cell? (ad.add j) = some u) :
    (loadVar T ad).run P w = .ok v w := by
  unfold bload at hv
  split at hv
  case h_2 => cases hv
  rename_i i hi
  have hok := htb _ _ hi
  have hu := hok.run_und w
  have hs := hok.run_size w
  have hagg : ∀ (h : Nat.beq ((cs.drop 0).take i.size).length i.size = true), (loadCells ad i.size).run P w = .ok ((cs.drop 0).take i.size).toArray w := fun h => by
    have hl := Nat.eq_of_beq_eq_true h
    have := run_loadCells_list (P := P) w ad ((cs.drop 0).take i.size) (fun j u hu => hc j u (by
      rw [List.drop_zero, List.getElem?_take] at hu
      split at hu
      · exact hu
      · cases hu))
    rw [hl] at this
    exact this
  split at hv
  · rename_i fs hd
    rw [hd] at hu
    cases hb : Nat.beq ((cs.drop 0).take i.size).length i.size with
    | false => rw [hb] at hv; cases hv
    | true =>
      rw [hb] at hv
      obtain rfl := Option.some.inj hv
      simp only [loadVar, isAgg, Sem.run_bind, hu, Result.andThen_ok, Sem.run_pure, if_true, hs, hagg hb]
  · rename_i q el hd
    rw [hd] at hu
    cases hb : Nat.beq ((cs.drop 0).take i.size).length i.size with
    | false => rw [hb] at hv; cases hv
    | true =>
      rw [hb] at hv
      obtain rfl := Option.some.inj hv
      simp only [loadVar, isAgg, Sem.run_bind, hu, Result.andThen_ok, Sem.run_pure, if_true, hs, hagg hb]
  · rename_i hn1 hn2
    have h0 := hc 0 v hv
    have ha0 : ad.add 0 = ad := by unfold Addr.add; rw [if_pos rfl]
    rw [ha0] at h0
    have hfalse : (isAgg T).run P w = .ok false w := by
      unfold isAgg
      simp only [Sem.run_bind, hu, Result.andThen_ok]
      rfl
    simp [loadVar, hfalse, h0]

theorem bload_off {T : TypeId} {cs : List Value} {off : Nat} {v : Value} (hv : bload tb T cs off = some v) : bload tb T (cs.drop off) 0 = some v := by
  unfold bload at *
  simpa using hv

theorem run_load_box (htb : TabOk P tb) {T : TypeId} {cs : List Value} {off b : Nat} {v : Value} (hv : bload tb T cs off = some v) {w : World} {T' : TypeId} {fr : Nat × Nat} (hb : w.heap[b]? = some (.cells cs.toArray T' fr)) :
    (loadVar T ⟨b, off, none⟩).run P w = .ok v w :=
  run_load_cells htb (bload_off hv) (fun j u hu => by
    rw [Addr.add_none rfl, cell_of_row w b (off + j) cs.toArray T' fr hb]
    simpa [List.getElem?_drop] using hu)

theorem exec_load {a : Act} {T : TypeId} {x : Operand} (hop : o.op = .load T x) {ad : Addr} (hx : a.eval x = .pointer (some ad)) {v : Value} {w : World} (hl : (loadVar T ad).run P w = .ok v w) :
    (execOp a.eval o).run P w = .ok (.value v) w := by
  unfold execOp
  simp only [hop, hx, Instr.loadAt, Instr.sureAddr, Sem.run_bind, Sem.run_pure, Result.andThen_ok, hl]

theorem WO_loadG {T : TypeId} {x : Operand} {ad : Addr} {v : Value} (hg : gd ops e o = some true) (hd : dstOk n o.dst = true) (hop : o.op = .load T x) (hx : ev e x = some (.pointer (some ad)))
    (hl : ∀ w, (md.getD C) w → (loadVar T ad).run P w = .ok v w) (h : WO P n R ops md l tl k (setE e o.dst v) C) : WO P n R ops md (o :: l) tl k e C :=
  WO_quiet v hg (by rw [hop]; rfl) hd (fun _ ha w hw => exec_load hop (ha.ev hx) (hl w hw)) h

/-- A load out of a box that the call owns. -/
theorem WO_loadB (htb : TabOk P tb) (i : Nat) {T T' : TypeId} {x : Operand} {b off : Nat} {cs : List Value} {v : Value} {w0' : World} {m0' m' : Mu} {Ls' : List (List Ent)} (hg : gd ops e o = some true) (hd : dstOk n o.dst = true) (hop : o.op = .load T x)
    (hx : ev e x = some (.pointer (some ⟨b, off, none⟩))) (hF : ∀ w, (md.getD C) w → St w0' m0' m' Ls' w) (hi : Ls'[i]? = some [⟨b, T', cs⟩]) (hv : bload tb T cs off = some v)
    (h : WO P n R ops md l tl k (setE e o.dst v) C) : WO P n R ops md (o :: l) tl k e C :=
  WO_loadG hg hd hop hx (fun w hw => run_load_box htb hv (((hF w hw).seg hi).at_ _ (List.mem_singleton.2 rfl)).1) h

/-- A load out of a box that stands for good. -/
theorem WO_loadM (htb : TabOk P tb) {T T' : TypeId} {x : Operand} {b off : Nat} {cs : List Value} {v : Value} {m' : Mu} {fr : Nat × Nat} (hg : gd ops e o = some true) (hd : dstOk n o.dst = true) (hop : o.op = .load T x)
    (hx : ev e x = some (.pointer (some ⟨b, off, none⟩))) (hF : ∀ w, (md.getD C) w → Sat m' w) (hb : m' b = some (.cells cs.toArray T' fr)) (hv : bload tb T cs off = some v)
    (h : WO P n R ops md l tl k (setE e o.dst v) C) : WO P n R ops md (o :: l) tl k e C :=
  WO_loadG hg hd hop hx (fun w hw => run_load_box htb hv (hF w hw _ _ hb)) h

theorem WO_box {T : TypeId} {x : Operand} {v : Value} (cs : List Value) (hg : gd ops e o = some true) (hd : dstOk n o.dst = true) (hcl : MdCl md) (hop : o.op = .box T x) (hx : ev e x = some v) (hcs : v.cells = cs.toArray)
    (h : ∀ b, WO P n R ops md l tl k (setE e o.dst (.pointer (some ⟨b, 0, none⟩))) (St w0 m0 m (Ls ++ [[⟨b, T, cs⟩]]))) : WO P n R ops md (o :: l) tl k e (St w0 m0 m Ls) :=
  WO_act (fun b : Nat => .pointer (some ⟨b, 0, none⟩)) (fun b => St w0 m0 m (Ls ++ [[⟨b, T, cs⟩]])) hg (by rw [hop]; rfl) hd hcl
    (fun a w ha hw => ⟨w.heap.size, w.alloc (.cells cs.toArray T), by
      unfold execOp
      simp only [hop, ha.ev hx, Instr.box, newVar, newRow, newObj, hcs]
      rfl, Ext.alloc w _, hw.alloc T cs⟩) h

theorem WO_alloc (htb : TabOk P tb) {T : TypeId} {z : Value} {ti : TI} (cs : List Value) (hg : gd ops e o = some true) (hd : dstOk n o.dst = true) (hcl : MdCl md) (hop : o.op = .alloc T) (hti : tget tb T = some ti) (hz : ti.zero = some z) (hcs : z.cells = cs.toArray)
    (h : ∀ b, WO P n R ops md l tl k (setE e o.dst (.pointer (some ⟨b, 0, none⟩))) (St w0 m0 m (Ls ++ [[⟨b, T, cs⟩]]))) : WO P n R ops md (o :: l) tl k e (St w0 m0 m Ls) :=
  WO_act (fun b : Nat => .pointer (some ⟨b, 0, none⟩)) (fun b => St w0 m0 m (Ls ++ [[⟨b, T, cs⟩]])) hg (by rw [hop]; rfl) hd hcl
    (fun a w ha hw => ⟨w.heap.size, w.alloc (.cells cs.toArray T), by
      have hzr := (htb _ _ hti).run_zero hz w
      unfold execOp
      simp only [hop, Instr.alloc, Sem.run_bind, hzr, Result.andThen_ok, newVar, newRow, newObj, hcs]
      rfl, Ext.alloc w _, hw.alloc T cs⟩) h

def bstore (tb : Tab) (T : TypeId) (cs : List Value) (off : Nat) (v : Value) : Option (List Value) :=
  match tget tb T with
  | some i => cond (Nat.beq v.cells.toList.length i.size && Nat.ble (off + i.size) cs.length && v.cells.toList.all Value.oneCell') (some (cs.take off ++ v.cells.toList ++ cs.drop (off + i.size))) none
  | none => none

theorem run_store_row (htb : TabOk P tb) {T : TypeId} {cs cs' : List Value} {off b : Nat} {v : Value} (hv : bstore tb T cs off v = some cs') {w : World} {T' : TypeId} (hb : w.heap[b]? = some (.cells cs.toArray T' (0, 0))) :
    (storeVar T ⟨b, off, none⟩ v).run P w = .ok () (w.setRow b cs'.toArray) := by
  unfold bstore at hv
  split at hv
  case h_2 => cases hv
  rename_i i hi
  have hs := (htb _ _ hi).run_size w
  cases hb3 : (Nat.beq v.cells.toList.length i.size && Nat.ble (off + i.size) cs.length && v.cells.toList.all Value.oneCell') with
  | false => rw [hb3] at hv; cases hv
  | true =>
    rw [hb3] at hv
    obtain rfl := Option.some.inj hv
    simp only [Bool.and_eq_true] at hb3
    obtain ⟨⟨h1, h2⟩, h3⟩ := hb3
    have h1' : v.cells.size = i.size := by have := Nat.eq_of_beq_eq_true h1; simpa using this
    have h2' := Nat.le_of_ble_eq_true h2
    have hl : v.cells.toList.length = i.size := by simpa using h1'
    have := run_storeCells_at P b off T' v.cells.toList 0 cs.toArray w hb (by rw [hl]; simpa using h2') (fun u hu => List.all_eq_true.1 h3 u hu)
    rw [hl] at this
    simp only [Nat.add_zero] at this
    have hne : ¬ (v.cells.size ≠ i.size) := by simp [h1']
    simp only [storeVar, Sem.run_bind, hs, Result.andThen_ok, if_neg hne]
    simpa using this

theorem exec_store {a : Act} {T : TypeId} {p x : Operand} (hop : o.op = .store T p x) {ad : Addr} (hp : a.eval p = .pointer (some ad)) {v : Value} (hx : a.eval x = v) {w w' : World} (hl : (storeVar T ad v).run P w = .ok () w') :
    (execOp a.eval o).run P w = .ok .skip w' := by
  unfold execOp
  simp only [hop, hp, hx, Instr.storeAt, Instr.sureAddr, Sem.run_bind, Sem.run_pure, Result.andThen_ok, hl]

theorem St.setRow {w : World} {i b : Nat} {T' : TypeId} {cs cs' : List Value} (h : St w0 m0 m Ls w) (hi : Ls[i]? = some [⟨b, T', cs⟩]) : St w0 m0 m (Ls.set i [⟨b, T', cs'⟩]) (w.setRow b cs'.toArray) := by
  have hb := ((h.seg hi).at_ _ (List.mem_singleton.2 rfl)).1
  refine h.put hi rfl rfl rfl (by simp) (fun c _ hc => setRow_other w b c _ (fun he => hc _ (List.mem_singleton.2 rfl) he.symm)) (fun x hx => ?_) (by simp)
  obtain rfl := List.mem_singleton.1 hx
  exact ⟨setRow_heap w b cs.toArray _ T' _ hb, .inl ⟨_, List.mem_singleton.2 rfl, rfl⟩⟩

theorem WO_storeB (htb : TabOk P tb) (i : Nat) {T T' : TypeId} {p x : Operand} {b off : Nat} {cs : List Value} (cs' : List Value) {v : Value} (hg : gd ops e o = some true) (hd : dstOk n o.dst = true) (hop : o.op = .store T p x)
    (hp : ev e p = some (.pointer (some ⟨b, off, none⟩))) (hx : ev e x = some v) (hi : Ls[i]? = some [⟨b, T', cs⟩]) (hv : bstore tb T cs off v = some cs')
    (h : WO P n R ops none l tl k (setE e o.dst undef) (St w0 m0 m (Ls.set i [⟨b, T', cs'⟩]))) : WO P n R ops none (o :: l) tl k e (St w0 m0 m Ls) :=
  WO_write (fun _ : Unit => undef) (fun _ => St w0 m0 m (Ls.set i [⟨b, T', cs'⟩])) hg hd
    (fun _ _ ha hw => ⟨(), _, .inr ⟨exec_store hop (ha.ev hp) (ha.ev hx) (run_store_row htb hv ((hw.seg hi).at_ _ (List.mem_singleton.2 rfl)).1), rfl⟩, hw.setRow hi⟩) (fun _ => h)

/-! ### Calls -/

theorem exec_call {a : Act} {c : Call} (hop : o.op = .call c) {fx : Operand} (hc : c.callee = .value fx) {f : FuncId} {first cap : Array Value} (hfx : a.eval fx = .func (.func f) first cap) {vs : List Value} (hargs : c.args.toList.map a.eval = vs) (hcal : Callable P f) (w : World) :
    (execOp a.eval o).run P w = .ok (.enter f (first.toList ++ vs ++ cap.toList).toArray) w := by
  have hm : c.args.map a.eval = vs.toArray := by rw [← hargs]; cases c.args; simp
  unfold execOp
  simp only [hop, resolve, hc, hfx, Deferred.ofValue, hm, Sem.run_bind, Sem.run_pure, Result.andThen_ok, invoke]
  have := hcal (first ++ vs.toArray ++ cap) w
  rw [this]
  congr 2
  apply Array.ext'
  simp

theorem qk_call {c : Call} {fx : Operand} (hc : c.callee = .value fx) : qk (.call c) = false := by simp [qk, hc]

theorem WO_call (Rr : Value → Mu → List Ent → Prop) {c : Call} {fx : Operand} {fv : Value} {vs : List Value} (G : Type) (val : G → Value) (C' : G → World → Prop) (hg : gd ops e o = some true) (hd : dstOk n o.dst = true) (hcl : MdCl md) (hop : o.op = .call c) (hc : c.callee = .value fx)
    (hfx : ev e fx = some fv) (ha : evs e c.args.toList = some vs)
    (hs : ∃ f first cap, fv = .func (.func f) first cap ∧ Callable P f ∧ ∀ w, C w → ∃ mc, Sat mc w ∧ Spec P f (first.toList ++ vs ++ cap.toList) mc Rr ∧
      ∀ w' v m' L, Ext w w' → Le mc m' → NewOnly w.heap.size mc m' → Sat m' w' → OwnL m' w.heap.size L w' → Rr v m' L → ∃ g, v = val g ∧ C' g w')
    (h : ∀ g, WO P n R ops md l tl k (setE e o.dst (val g)) (C' g)) : WO P n R ops md (o :: l) tl k e C := by
  obtain ⟨f, first, cap, rfl, hcal, hsp⟩ := hs
  refine WO_calls f _ val C' hg (by rw [hop]; exact qk_call hc) hd hcl (fun a w hag _ => exec_call hop hc (hag.ev hfx) (hag.evs ha) hcal w) (fun w hw => ?_) h
  obtain ⟨mc, hmc, hspec, hcont⟩ := hsp w hw
  refine (hspec w hmc).mono ?_
  rintro e' w' ⟨v, m', L, rfl, h2, h3, h4, h5, h6, h7⟩
  obtain ⟨g, rfl, hg'⟩ := hcont w' v m' L h2 h3 h4 h5 h6 h7
  exact ⟨g, rfl, h2, hg'⟩

/-- A call whose result is one known value. -/
theorem WO_call0 {c : Call} {fx : Operand} {fv : Value} {vs : List Value} (val : Value) (hg : gd ops e o = some true) (hd : dstOk n o.dst = true) (hcl : MdCl md) (hop : o.op = .call c) (hc : c.callee = .value fx)
    (hfx : ev e fx = some fv) (ha : evs e c.args.toList = some vs) (hC : Closed C)
    (hs : ∃ f first cap, fv = .func (.func f) first cap ∧ Callable P f ∧ ∀ w, C w → ∃ mc, Sat mc w ∧ Spec P f (first.toList ++ vs ++ cap.toList) mc (fun v _ _ => v = val))
    (h : WO P n R ops md l tl k (setE e o.dst val) C) : WO P n R ops md (o :: l) tl k e C := by
  obtain ⟨f, first, cap, hfv, hcal, hsp⟩ := hs
  refine WO_call (fun v _ _ => v = val) Unit (fun _ => val) (fun _ => C) hg hd hcl hop hc hfx ha ⟨f, first, cap, hfv, hcal, fun w hw => ?_⟩ (fun _ => h)
  obtain ⟨mc, h1, h2⟩ := hsp w hw
  exact ⟨mc, h1, h2, fun w' v m' L he _ _ _ _ hr => ⟨(), hr, hC w w' hw he⟩⟩

/-- A call that hands back memory of its own. -/
theorem WO_call1 {c : Call} {fx : Operand} {fv : Value} {vs : List Value} (Q : Value → List Ent → Prop) (hg : gd ops e o = some true) (hd : dstOk n o.dst = true) (hcl : MdCl md) (hop : o.op = .call c) (hc : c.callee = .value fx)
    (hfx : ev e fx = some fv) (ha : evs e c.args.toList = some vs)
    (hs : ∃ f first cap, fv = .func (.func f) first cap ∧ Callable P f ∧ ∀ w, St w0 m0 m Ls w → ∃ mc, Sat mc w ∧ Spec P f (first.toList ++ vs ++ cap.toList) mc (fun v _ L => Q v L))
    (h : ∀ v L, Q v L → WO P n R ops md l tl k (setE e o.dst v) (St w0 m0 m (Ls ++ [L]))) : WO P n R ops md (o :: l) tl k e (St w0 m0 m Ls) := by
  obtain ⟨f, first, cap, hfv, hcal, hsp⟩ := hs
  refine WO_call (fun v _ L => Q v L) {p : Value × List Ent // Q p.1 p.2} (fun g => g.1.1) (fun g => St w0 m0 m (Ls ++ [g.1.2])) hg hd hcl hop hc hfx ha ⟨f, first, cap, hfv, hcal, fun w hw => ?_⟩ (fun g => h g.1.1 g.1.2 g.2)
  obtain ⟨mc, h1, h2⟩ := hsp w hw
  refine ⟨mc, h1, h2, fun w' v m' L he _ _ _ ho hr => ⟨⟨(v, L), hr⟩, rfl, ?_⟩⟩
  refine hw.called he (Le.refl m) (fun b hb => .inl hb) (hw.sat.ext he) ⟨fun x hx => ?_, ho.nd⟩
  obtain ⟨a1, a2, _⟩ := ho.at_ x hx
  refine ⟨a1, a2, ?_⟩
  cases hm : m x.b with
  | none => rfl
  | some ob => exact absurd (hw.sat.lt (b := x.b) (by simp [hm])) (by omega)

/-- A call whose result may share memory with what stands for good. -/
theorem WO_call2 {c : Call} {fx : Operand} {fv : Value} {vs : List Value} (Q : Value → Mu → List Ent → Prop) (hg : gd ops e o = some true) (hd : dstOk n o.dst = true) (hcl : MdCl md) (hop : o.op = .call c) (hc : c.callee = .value fx)
    (hfx : ev e fx = some fv) (ha : evs e c.args.toList = some vs) (hs : SpecV P fv vs m Q)
    (h : ∀ v m' L, Le m m' → Q v m' L → WO P n R ops md l tl k (setE e o.dst v) (St w0 m0 m' (Ls ++ [L]))) : WO P n R ops md (o :: l) tl k e (St w0 m0 m Ls) := by
  obtain ⟨f, first, cap, hfv, hcal, hsp⟩ := hs
  refine WO_call Q {p : Value × Mu × List Ent // Le m p.2.1 ∧ Q p.1 p.2.1 p.2.2} (fun g => g.1.1) (fun g => St w0 m0 g.1.2.1 (Ls ++ [g.1.2.2])) hg hd hcl hop hc hfx ha ⟨f, first, cap, hfv, hcal, fun w hw => ?_⟩ (fun g => h g.1.1 g.1.2.1 g.1.2.2 g.2.1 g.2.2)
  exact ⟨m, hw.sat, hsp, fun w' v m' L he hle hn hsat ho hr => ⟨⟨(v, m', L), hle, hr⟩, rfl, hw.called he hle hn hsat ho⟩⟩

/-! ### The way out -/

def RLc (P : Program) (n : Nat) (e : Env) (C : World → Prop) (r : List ResultVar) (vs : List Value) : Prop := ∀ a w, Ag a n e → C w → RL P w a.tmps r vs

theorem RLc_nil : RLc P n e C [] [] := fun _ _ _ _ => trivial
theorem RLc_tmp {t : Tmp} {v : Value} {r : List ResultVar} {vs : List Value} (hv : look e t = some v) (h : RLc P n e C r vs) : RLc P n e C (.tmp t :: r) (v :: vs) := fun a w ha hw =>
  ⟨by have := ha.fit _ _ hv; simp [this], h a w ha hw⟩
theorem RLc_cell (htb : TabOk P tb) (i : Nat) {t : Tmp} {T T' : TypeId} {b : Nat} {cs : List Value} {v : Value} {r : List ResultVar} {vs : List Value} (hx : look e t = some (.pointer (some ⟨b, 0, none⟩))) (hi : Ls[i]? = some [⟨b, T', cs⟩]) (hv : bload tb T cs 0 = some v)
    (h : RLc P n e (St w0 m0 m Ls) r vs) : RLc P n e (St w0 m0 m Ls) (.cell t T :: r) (v :: vs) := fun a w ha hw =>
  ⟨⟨_, by have := ha.fit _ _ hx; simp [this], run_load_box htb hv ((hw.seg hi).at_ _ (List.mem_singleton.2 rfl)).1⟩, h a w ha hw⟩

theorem ret_out {fn : Func} {Rr : Value → Mu → List Ent → Prop} {vs : List Value} {L : List Ent} (hr : RLc P n e (St w0 m0 m Ls) fn.results.toList vs) (hL : L.Sublist Ls.flatten) (hR : Rr (tup vs) m L) :
    ∀ a w, Ag a n e → St w0 m0 m Ls w → Ret P fn w0 m0 Rr a w := fun a w ha hw =>
  ⟨ha.df, _, m, L, results_RL (hr a w ha hw), hw.below, hw.le, hw.new, hw.sat, hw.own.sub hL, hR⟩

theorem seg_sub (i : Nat) {L : List Ent} (hi : Ls[i]? = some L) : L.Sublist Ls.flatten := by
  obtain ⟨A, B, hAB, _⟩ := seg_split hi
  rw [hAB, List.flatten_append, List.flatten_cons]
  exact (List.sublist_append_left L B.flatten).trans (List.sublist_append_right _ _)

end
end Go.E
