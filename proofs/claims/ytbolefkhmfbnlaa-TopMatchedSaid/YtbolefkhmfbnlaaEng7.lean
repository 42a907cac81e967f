/-
  THE ENGINE, 7: append, parts of slices, what is written no more.
-/
import Derived.Test.YtbolefkhmfbnlaaEng6
namespace Go.E
open Go.RowKit

section
variable {P : Program} {n : Nat} {R : Act → World → Prop} {ops : Array Oper} {md : Option (World → Prop)} {l : List Oper} {tl : Act → World → Prop} {kk : List KI} {e : Env} {C : World → Prop}
variable {w0 : World} {m0 m : Mu} {Ls : List (List Ent)} {tb : Tab} {o : Oper} {α : Type} {k : Nat} {E : α → List Value}

theorem run_append_zero (t ty el : TypeId) (i : TypeInfo) (ht : P.underlying t = some (.slice el)) (hi : P.info? el = some i) (ao : Option Addr) (ad : Addr) (c : Nat) (w : World) :
    (Builtin.append_ #[t, t] ty #[.slice ao 0 0, .slice (some ad) 0 c]).run P w = .ok (.slice ao 0 0) w := by
  cases ao with
  | none => simp [Builtin.append_, run_underlying ht, sizeOf, typeInfo, hi, Builtin.lenOf, Builtin.firstCells, loadCells, loadCellsFrom]
  | some a => simp [Builtin.append_, run_underlying ht, sizeOf, typeInfo, hi, Builtin.lenOf, Builtin.firstCells, loadCells, loadCellsFrom, storeCells]

theorem exec_append {a : Act} {c : Call} (hop : o.op = .call c) (hc : c.callee = .builtin .append) {v x : Value} (hargs : c.args.toList.map a.eval = [v, x]) {T : TypeId} (hty : c.argTypes.toList = [T, T]) {r : Value} {w w' : World}
    (hr : (Builtin.append_ #[T, T] o.type #[v, x]).run P w = .ok r w') : (execOp a.eval o).run P w = .ok (.value r) w' := by
  have hm : c.args.map a.eval = #[v, x] := by rw [show (#[v, x] : Array Value) = [v, x].toArray from rfl, ← hargs]; cases c.args; simp
  have ht : c.argTypes = #[T, T] := by cases h : c.argTypes; simp_all
  unfold execOp
  simp only [hop, resolve, hc, hm, ht, Sem.run_bind, Sem.run_pure, Result.andThen_ok, invoke, builtin, hr]

/-- A new block in a segment's place. -/
theorem St.fresh {w : World} {i : Nat} {L : List Ent} (h : St w0 m0 m Ls w) (hi : Ls[i]? = some L) (T : TypeId) (cs : List Value) : St w0 m0 m (Ls.set i [⟨w.heap.size, T, cs⟩]) (w.drew.alloc (.cells cs.toArray T)) := by
  refine h.put hi rfl rfl rfl (by simp) (fun b hb _ => heap_alloc_old w.drew _ b hb) (fun x hx => ?_) (by simp)
  obtain rfl := List.mem_singleton.1 hx
  exact ⟨heap_alloc_new w.drew _, .inr (Nat.le_refl _)⟩

theorem run_append_own' (htb : TabOk P tb) (hE : ∀ x, (E x).length = k) {T el ty : TypeId} {ti te : TI} {v z : Value} {xs ys : List α} (hone : ∀ x ∈ ys, (E x).all Value.oneCell' = true) {L : List Ent} {si : Nat} {ad : Addr} {cp : Nat} {w : World}
    (hT : tget tb T = some ti) (hds : ti.desc = .slice el) (hel : tget tb el = some te) (hk : te.size = k) (hz : te.zero = some z) (hzs : z.cells.size = k) (hst : St w0 m0 m Ls w) (ho : OwnE el k E v xs L) (hL : Ls[si]? = some L)
    (hsrc : ∀ (j : Nat) u, (ys.flatMap E)[j]? = some u → w.cell? (ad.add j) = some u) (hb : (xs.length + ys.length) * te.bytes ≤ 140737488355328) (hm : xs.length + ys.length ≤ maxLen) :
    ∃ ao cap L' w', (Builtin.append_ #[T, T] ty #[v, .slice (some ad) ys.length cp]).run P w = .ok (.slice ao (xs ++ ys).length cap) w' ∧ OwnE el k E (.slice ao (xs ++ ys).length cap) (xs ++ ys) L' ∧ St w0 m0 m (Ls.set si L') w' := by
  obtain ⟨f, hf, f1, f2, f3⟩ := (htb _ _ hel).typeInfo
  have ht : P.underlying T = some (.slice el) := by rw [(htb _ _ hT).und, hds]
  have hfz : f.zero = some z := by rw [f3, hz]
  have hnews : (ys.flatMap E).length = ys.length * f.size := by rw [fm_len hE, f1, hk]
  have hmi : ((xs.length + ys.length : Nat) : Int) ≤ 9223372036854775807 := by simp only [maxLen] at hm; omega
  have hlen : (xs ++ ys).length = xs.length + ys.length := List.length_append
  have hall1 : ∀ u ∈ ys.flatMap E, u.oneCell' = true := fun u hu => by
    obtain ⟨y, hym, hy⟩ := List.mem_flatMap.1 hu
    exact List.all_eq_true.1 (hone y hym) u hy
  have hzc : ∀ q, (Builtin.zeroCells z.cells q).size = q * k := fun q => by rw [size_zeroCells, hzs]
  rcases ho with ⟨ao, rfl, rfl, rfl⟩ | ⟨b, cap, rest, rfl, rfl, h3, h4, h5⟩
  · by_cases hy0 : ys.length = 0
    · have hy : ys = [] := List.eq_nil_of_length_eq_zero hy0
      subst hy
      refine ⟨ao, 0, [], w, run_append_zero T ty el f ht hf ao ad cp w, .inl ⟨ao, rfl, rfl, rfl⟩, ?_⟩
      have : Ls.set si [] = Ls := by
        apply List.ext_getElem?
        intro j
        by_cases hj : si = j
        · subst hj; rw [hL, List.getElem?_set_self (List.getElem?_eq_some_iff.1 hL).1]
        · rw [List.getElem?_set_ne hj]
      rw [this]; exact hst
    · have hpos : 0 < ys.length := by omega
      have hb' : ys.length * te.bytes ≤ 140737488355328 := by simpa using hb
      have hgc := grownCap_ge w ys.length 0 el
      have hcm : grownCap w ys.length 0 el ≤ maxLen := grownCap_le_maxLen w ys.length 0 el (by simpa using hm)
      have hrow : ∃ w', (Builtin.append_ #[T, T] ty #[.slice ao 0 0, .slice (some ad) ys.length cp]).run P w = .ok (.slice (some ⟨w.heap.size, 0, none⟩) ys.length (grownCap w ys.length 0 el)) w' ∧
          w' = w.drew.alloc (.cells ((ys.flatMap E).toArray ++ Builtin.zeroCells z.cells (grownCap w ys.length 0 el - ys.length)) el) := by
        cases ao with
        | none => exact ⟨_, run_append_nil (P := P) w T ty el f z ht hf hfz ad ys.length cp _ hnews hsrc hpos (by simpa using hmi) (by rw [f2]; omega), rfl⟩
        | some a0 =>
          have hr := run_append_grow (P := P) w T ty el f z ht hf hfz a0 0 0 [] (by simp) (by simp) ad ys.length cp _ hnews hsrc (by omega) (by simpa using hmi) (by rw [f2, Nat.zero_add]; exact growslice_fits hpos hb')
          simp only [Nat.zero_add] at hr
          refine ⟨_, hr, ?_⟩
          simp
      obtain ⟨w', hr, hw'⟩ := hrow
      refine ⟨_, grownCap w ys.length 0 el, [⟨w.heap.size, el, ys.flatMap E ++ (Builtin.zeroCells z.cells (grownCap w ys.length 0 el - ys.length)).toList⟩], w', by simpa using hr, .inr ⟨w.heap.size, _, (Builtin.zeroCells z.cells (grownCap w ys.length 0 el - ys.length)).toList, by simp, by simp, ?_, by simpa using hgc, hcm⟩, ?_⟩
      · simp only [List.nil_append, List.length_append, fm_len hE, Array.length_toList, hzc]
        rw [← Nat.add_mul]; congr 1; omega
      · rw [hw']
        have := hst.fresh hL el (ys.flatMap E ++ (Builtin.zeroCells z.cells (grownCap w ys.length 0 el - ys.length)).toList)
        have e2 : (ys.flatMap E ++ (Builtin.zeroCells z.cells (grownCap w ys.length 0 el - ys.length)).toList).toArray = (ys.flatMap E).toArray ++ Builtin.zeroCells z.cells (grownCap w ys.length 0 el - ys.length) := by
          apply Array.ext'; simp
        rw [e2] at this
        exact this
  · have hheap := ((hst.seg hL).at_ _ (List.mem_singleton.2 rfl)).1
    have hxl : (xs.flatMap E).length = xs.length * k := fm_len hE xs
    by_cases hroom : xs.length + ys.length ≤ cap
    · have hfit : xs.length * f.size + (ys.flatMap E).length ≤ (xs.flatMap E ++ rest).toArray.size := by
        rw [f1, hk, fm_len hE, List.size_toArray, h3, ← Nat.add_mul]
        exact Nat.mul_le_mul_right k hroom
      have hr := run_append_room (P := P) w T ty el f ht hf b xs.length cap (xs.flatMap E ++ rest).toArray hheap ad ys.length cp (ys.flatMap E) hnews hsrc hall1 hroom hfit
      rw [f1, hk] at hr
      have hcs : (xs.flatMap E ++ rest).toArray.toList.take (xs.length * k) ++ ys.flatMap E ++ (xs.flatMap E ++ rest).toArray.toList.drop (xs.length * k + (ys.flatMap E).length) = (xs ++ ys).flatMap E ++ rest.drop (ys.flatMap E).length := by
        simp only [List.flatMap_append, ← hxl, List.take_left', List.drop_append, List.append_assoc]
        simp
      rw [hcs] at hr
      refine ⟨_, cap, [⟨b, el, (xs ++ ys).flatMap E ++ rest.drop (ys.flatMap E).length⟩], _, by rw [hlen]; exact hr, .inr ⟨b, cap, rest.drop (ys.flatMap E).length, by rw [hlen], rfl, ?_, by rw [hlen]; exact hroom, h5⟩, hst.setRow hL⟩
      have h6 : (xs.length + ys.length) * k ≤ cap * k := Nat.mul_le_mul_right k hroom
      have h7 := h3
      simp only [List.length_append, fm_len hE] at h7
      simp only [List.length_append, fm_len hE, List.length_drop]
      rw [Nat.add_mul] at h6 ⊢
      omega
    · have hlt : cap < xs.length + ys.length := by omega
      have hgc := grownCap_ge w (xs.length + ys.length) cap el
      have hcm : grownCap w (xs.length + ys.length) cap el ≤ maxLen := grownCap_le_maxLen w _ cap el hm
      have holds : ∀ (j : Nat) u, (xs.flatMap E)[j]? = some u → w.cell? ((⟨b, 0, none⟩ : Addr).add j) = some u := fun j u hu => by
        rw [Addr.add_none rfl, Nat.zero_add, cell_of_row w b j _ el (0, 0) hheap]
        simp only [List.getElem?_toArray]
        rw [List.getElem?_append_left (List.getElem?_eq_some_iff.1 hu).1]
        exact hu
      have hr := run_append_grow (P := P) w T ty el f z ht hf hfz ⟨b, 0, none⟩ xs.length cap (xs.flatMap E) (by rw [hxl, f1, hk]) holds ad ys.length cp (ys.flatMap E) hnews hsrc hlt hmi (by rw [f2]; exact growslice_fits hlt hb)
      refine ⟨_, grownCap w (xs.length + ys.length) cap el, [⟨w.heap.size, el, (xs ++ ys).flatMap E ++ (Builtin.zeroCells z.cells (grownCap w (xs.length + ys.length) cap el - (xs.length + ys.length))).toList⟩], _, by rw [hlen]; exact hr,
        .inr ⟨w.heap.size, _, (Builtin.zeroCells z.cells (grownCap w (xs.length + ys.length) cap el - (xs.length + ys.length))).toList, by rw [hlen], rfl, ?_, by rw [hlen]; exact hgc, hcm⟩, ?_⟩
      · simp only [List.length_append, fm_len hE, Array.length_toList, hzc]
        rw [← Nat.add_mul]; congr 1; omega
      · have := hst.fresh hL el ((xs ++ ys).flatMap E ++ (Builtin.zeroCells z.cells (grownCap w (xs.length + ys.length) cap el - (xs.length + ys.length))).toList)
        have e2 : ((xs ++ ys).flatMap E ++ (Builtin.zeroCells z.cells (grownCap w (xs.length + ys.length) cap el - (xs.length + ys.length))).toList).toArray = (xs.flatMap E).toArray ++ (ys.flatMap E).toArray ++ Builtin.zeroCells z.cells (grownCap w (xs.length + ys.length) cap el - (xs.length + ys.length)) := by
          apply Array.ext'; simp
        rw [e2] at this
        exact this

theorem WO_append (htb : TabOk P tb) (hE : ∀ x, (E x).length = k) (si : Nat) {c : Call} {T el : TypeId} {ti te : TI} {v z : Value} {xs : List α} (ys : List α) (hone : ∀ x ∈ ys, (E x).all Value.oneCell' = true) {L : List Ent} {ad : Addr} {cp : Nat} (hg : gd ops e o = some true) (hd : dstOk n o.dst = true) (hop : o.op = .call c)
    (hc : c.callee = .builtin .append) (hargs : evs e c.args.toList = some [v, .slice (some ad) ys.length cp]) (hty : c.argTypes.toList = [T, T]) (hT : tget tb T = some ti) (hds : ti.desc = .slice el) (hel : tget tb el = some te) (hk : te.size = k) (hz : te.zero = some z) (hzs : z.cells.size = k)
    (ho : OwnE el k E v xs L) (hL : Ls[si]? = some L) (hsrc : ∀ w, St w0 m0 m Ls w → ∀ (j : Nat) u, (ys.flatMap E)[j]? = some u → w.cell? (ad.add j) = some u) (hb : (xs.length + ys.length) * te.bytes ≤ 140737488355328) (hm : xs.length + ys.length ≤ maxLen)
    (h : ∀ ao cap L', OwnE el k E (.slice ao (xs ++ ys).length cap) (xs ++ ys) L' → WO P n R ops none l tl kk (setE e o.dst (.slice ao (xs ++ ys).length cap)) (St w0 m0 m (Ls.set si L'))) : WO P n R ops none (o :: l) tl kk e (St w0 m0 m Ls) :=
  WO_write (G := {p : Option Addr × Nat × List Ent // OwnE el k E (.slice p.1 (xs ++ ys).length p.2.1) (xs ++ ys) p.2.2}) (fun g => .slice g.1.1 (xs ++ ys).length g.1.2.1) (fun g => St w0 m0 m (Ls.set si g.1.2.2)) hg hd
    (fun a w ha hw => by
      obtain ⟨ao, cap, L', w', h1, h2, h3⟩ := run_append_own' (ty := o.type) (cp := cp) htb hE hone hT hds hel hk hz hzs hw ho hL (hsrc w hw) hb hm
      exact ⟨⟨(ao, cap, L'), h2⟩, w', .inl (exec_append hop hc (ha.evs hargs) hty h1), h3⟩) (fun g => h _ _ _ g.2)

/-- Cells of a literal that the call has just made. -/
theorem src_seg {j b : Nat} {T : TypeId} {cs : List Value} (hj : Ls[j]? = some [⟨b, T, cs⟩]) : ∀ w, St w0 m0 m Ls w → ∀ (i : Nat) u, cs[i]? = some u → w.cell? ((⟨b, 0, none⟩ : Addr).add i) = some u := fun w hw i u hu => by
  rw [Addr.add_none rfl, Nat.zero_add]
  exact seg_cells hw hj hu

/-- Cells of a slice that stands for good. -/
theorem src_read (hk : 0 < k) {m' : Mu} {ad : Addr} {len cap : Nat} {ys : List α} (hE : ∀ x, (E x).length = k) (hs : SlR (FE E) k m' (.slice (some ad) len cap) ys) {w : World} (hw : Sat m' w) : ∀ (i : Nat) u, (ys.flatMap E)[i]? = some u → w.cell? (ad.add i) = some u := fun i u hu => by
  have hi : i < ys.length * k := by rw [← fm_len hE ys]; exact (List.getElem?_eq_some_iff.1 hu).1
  have hq : i / k < ys.length := Nat.div_lt_of_lt_mul (by rw [Nat.mul_comm]; exact hi)
  have hj : i % k < k := Nat.mod_lt _ hk
  obtain ⟨a, cap', cs, h1, h2, h3, h4, h5⟩ := hs.at_ (i := i / k) (x := ys[i / k]) (List.getElem?_eq_getElem hq) hw
  simp only [Value.slice.injEq, Option.some.injEq] at h1
  obtain ⟨rfl, _, _⟩ := h1
  subst h4
  have h6 := fm_get hE ys (i / k) ys[i / k] (i % k) (List.getElem?_eq_getElem hq) hj
  have hie : i / k * k + i % k = i := by rw [Nat.mul_comm]; exact Nat.div_add_mod i k
  rw [hie, hu] at h6
  have := h5 (i % k) u h6.symm
  rw [show eAddr (.slice (some ad) len cap) k (i / k) = ad.add (i / k * k) from rfl, Addr.add_none h2, Addr.add_none rfl] at this
  rw [Addr.add_none h2]
  simpa [Nat.add_assoc, hie] using this

/-! ### Parts of slices -/

def evO (e : Env) : Option Operand → Option (Option Value)
  | none => some none
  | some x => match ev e x with
    | some v => some (some v)
    | none => none

theorem Ag.evO {a : Act} (h : Ag a n e) {x : Option Operand} {v : Option Value} (hx : evO e x = some v) : x.map a.eval = v := by
  cases x with
  | none => simpa [E.evO] using hx
  | some y =>
    simp only [E.evO] at hx
    split at hx
    · rename_i u hu
      obtain rfl := Option.some.inj hx
      simp [h.ev hu]
    · cases hx

theorem run_slice (htb : TabOk P tb) {T el : TypeId} {ti te : TI} (hT : tget tb T = some ti) (hds : ti.desc = .slice el) (hel : tget tb el = some te) (ao : Option Addr) (len cap : Nat) (lo hi mx : Option Int) (l h m : Nat)
    (hlo : lo.getD 0 = l) (hhi : hi.getD len = h) (hmx : mx.getD cap = m) (hlh : l ≤ h) (hhm : h ≤ m) (hmc : m ≤ cap) (hmh : mx.isSome = true → hi.isSome = true) (w : World) :
    (Instr.sliceAt T (.slice ao len cap) (lo.map (.int .i64)) (hi.map (.int .i64)) (mx.map (.int .i64))).run P w = .ok (.slice (if m = l then ao else ao.map (·.add (l * te.size))) (h - l) (m - l)) w := by
  have hu := (htb _ _ hT).run_und w
  rw [hds] at hu
  have hs := (htb _ _ hel).run_size w
  unfold Instr.sliceAt
  simp only [Sem.run_bind, hu, Result.andThen_ok]
  unfold Instr.slice
  simp only [Sem.run_bind, hu, Result.andThen_ok]
  have hb : (Instr.sliceBounds true len cap (lo.map (.int .i64)) (hi.map (.int .i64)) (mx.map (.int .i64))).run P w = .ok (l, h, m) w := by
    unfold Instr.sliceBounds
    cases mx with
    | none =>
      simp only [Option.getD_none, Option.map_none] at hmx ⊢
      obtain rfl : cap = m := by exact_mod_cast hmx
      cases hi with
      | none =>
        simp only [Option.getD_none, Option.map_none] at hhi ⊢
        obtain rfl : len = h := by exact_mod_cast hhi
        cases lo with
        | none =>
          simp only [Option.getD_none] at hlo
          obtain rfl : l = 0 := by omega
          simp
        | some z =>
          simp only [Option.getD_some] at hlo
          subst hlo
          simp [Instr.sliceBound, asIntOf, hlh]
      | some y =>
        simp only [Option.getD_some] at hhi
        subst hhi
        cases lo with
        | none =>
          simp only [Option.getD_none] at hlo
          obtain rfl : l = 0 := by omega
          simp [Instr.sliceBound, asIntOf, hhm]
        | some z =>
          simp only [Option.getD_some] at hlo
          subst hlo
          simp [Instr.sliceBound, asIntOf, hlh, hhm]
    | some q =>
      simp only [Option.getD_some] at hmx
      subst hmx
      cases hi with
      | none => simp at hmh
      | some y =>
        simp only [Option.getD_some] at hhi
        subst hhi
        cases lo with
        | none =>
          simp only [Option.getD_none] at hlo
          obtain rfl : l = 0 := by omega
          simp [Instr.sliceBound, asIntOf, hhm, hmc]
        | some z =>
          simp only [Option.getD_some] at hlo
          subst hlo
          simp [Instr.sliceBound, asIntOf, hlh, hhm, hmc]
  simp only [hb, Result.andThen_ok, hs, Sem.run_pure]

theorem SlR.part {El : Mu → List Value → α → Prop} {m' : Mu} {ao : Option Addr} {len cap : Nat} {xs : List α} (hs : SlR El k m' (.slice ao len cap) xs) (l h q : Nat) (hlh : l ≤ h) (hh : h ≤ xs.length) (hhm : h ≤ q) (hmc : q ≤ cap) :
    SlR El k m' (.slice (if q = l then ao else ao.map (·.add (l * k))) ((xs.take h).drop l).length (q - l)) ((xs.take h).drop l) := by
  obtain ⟨ao', cap', h1, h2, h3, h4, h5⟩ := hs
  simp only [Value.slice.injEq] at h1
  obtain ⟨rfl, rfl, rfl⟩ := h1
  have hl : ((xs.take h).drop l).length = h - l := by rw [List.length_drop, List.length_take]; omega
  refine ⟨_, _, rfl, by rw [hl]; omega, by omega, fun hn => ?_, fun i x hx => ?_⟩
  · have : ao = none := by
      split at hn
      · exact hn
      · cases ao with
        | none => rfl
        | some a => cases hn
    have := h4 this
    omega
  · have hi : i < h - l := by rw [← hl]; exact (List.getElem?_eq_some_iff.1 hx).1
    have hx' : xs[l + i]? = some x := by
      rw [List.getElem?_drop, List.getElem?_take, if_pos (by omega)] at hx
      exact hx
    obtain ⟨a, cells, T, fr, cs, rfl, q2, q3, q4, q5, q6⟩ := h5 (l + i) x hx'
    rw [if_neg (by omega)]
    refine ⟨a.add (l * k), cells, T, fr, cs, rfl, ?_, ?_, q4, fun j u hu => ?_, q6⟩
    · rw [Addr.add_none q2]
    · rw [Addr.add_none q2]; exact q3
    · rw [Addr.add_none q2]
      have := q5 j u hu
      rw [Nat.add_mul, ← Nat.add_assoc] at this
      exact this

theorem WO_slice (htb : TabOk P tb) {T el : TypeId} {ti te : TI} {x : Operand} {xlo xhi xmx : Option Operand} {El : Mu → List Value → α → Prop} {m' : Mu} {ao : Option Addr} {len cap : Nat} {xs : List α} (lo hi mx : Option Int) (lN hN : Nat) (hg : gd ops e o = some true) (hd : dstOk n o.dst = true)
    (hop : o.op = .slice T x xlo xhi xmx) (hx : ev e x = some (.slice ao len cap)) (h1 : evO e xlo = some (lo.map (.int .i64))) (h2 : evO e xhi = some (hi.map (.int .i64))) (h3 : evO e xmx = some (mx.map (.int .i64)))
    (hT : tget tb T = some ti) (hds : ti.desc = .slice el) (hel : tget tb el = some te) (hk : te.size = k) (hs : SlR El k m' (.slice ao len cap) xs) (hlo : lo.getD 0 = lN) (hhi : hi.getD len = hN) (hmx : ∀ q, mx = some q → (hN : Int) ≤ q ∧ q ≤ xs.length) (hlh : lN ≤ hN) (hh : hN ≤ xs.length) (hmh : mx.isSome = true → hi.isSome = true)
    (h : ∀ ao' cap', SlR El k m' (.slice ao' ((xs.take hN).drop lN).length cap') ((xs.take hN).drop lN) → WO P n R ops md l tl kk (setE e o.dst (.slice ao' ((xs.take hN).drop lN).length cap')) C) : WO P n R ops md (o :: l) tl kk e C := by
  obtain ⟨ao0, cap0, e1, e2, e3⟩ := hs.len
  simp only [Value.slice.injEq] at e1
  obtain ⟨rfl, rfl, rfl⟩ := e1
  have hll : ((xs.take hN).drop lN).length = hN - lN := by rw [List.length_drop, List.length_take]; omega
  have key : ∃ q : Nat, mx.getD cap = q ∧ hN ≤ q ∧ q ≤ cap := by
    cases mx with
    | none => exact ⟨cap, rfl, by omega, Nat.le_refl _⟩
    | some q =>
      obtain ⟨a1, a2⟩ := hmx q rfl
      exact ⟨q.toNat, by simp only [Option.getD_some]; omega, by omega, by omega⟩
  obtain ⟨q, hq, hq1, hq2⟩ := key
  refine WO_quiet _ hg (by rw [hop]; rfl) hd (fun a ha w _ => ?_) (h _ _ (hs.part lN hN q hlh hh hq1 hq2))
  have hr := run_slice htb hT hds hel ao xs.length cap lo hi mx lN hN q hlo hhi hq hlh hq1 hq2 hmh w
  rw [hk] at hr
  unfold execOp
  simp only [hop, ha.ev hx, Ag.evO ha h1, Ag.evO ha h2, Ag.evO ha h3, Sem.run_bind, hr, Result.andThen_ok, Sem.run_pure, hll]

/-! ### Numbers with a condition -/

theorem WO_quo {t t2 : TypeId} {x y : Operand} {kd : IntKind} {a b : Int} (hg : gd ops e o = some true) (hd : dstOk n o.dst = true) (hop : o.op = .binOp .quo t x y t2) (hx : ev e x = some (.int kd a)) (hy : ev e y = some (.int kd b)) (hb : b ≠ 0)
    (h : WO P n R ops md l tl kk (setE e o.dst (.int kd (kd.wrap (a.tdiv b)))) C) : WO P n R ops md (o :: l) tl kk e C :=
  WO_quiet _ hg (by rw [hop]; rfl) hd (fun ac ha w _ => by
    unfold execOp
    simp only [hop, ha.ev hx, ha.ev hy, Sem.run_bind, eqGuard_int, Result.andThen_ok, arith_ok (show arith .quo kd a b = some _ from if_neg hb), Sem.run_pure]) h
theorem WO_rem {t t2 : TypeId} {x y : Operand} {kd : IntKind} {a b : Int} (hg : gd ops e o = some true) (hd : dstOk n o.dst = true) (hop : o.op = .binOp .rem t x y t2) (hx : ev e x = some (.int kd a)) (hy : ev e y = some (.int kd b)) (hb : b ≠ 0)
    (h : WO P n R ops md l tl kk (setE e o.dst (.int kd (a.tmod b))) C) : WO P n R ops md (o :: l) tl kk e C :=
  WO_quiet _ hg (by rw [hop]; rfl) hd (fun ac ha w _ => by
    unfold execOp
    simp only [hop, ha.ev hx, ha.ev hy, Sem.run_bind, eqGuard_int, Result.andThen_ok, arith_ok (show arith .rem kd a b = some _ from if_neg hb), Sem.run_pure]) h
theorem WO_shl {t t2 : TypeId} {x y : Operand} {kd ky : IntKind} {a b : Int} (hg : gd ops e o = some true) (hd : dstOk n o.dst = true) (hop : o.op = .binOp .shl t x y t2) (hx : ev e x = some (.int kd a)) (hy : ev e y = some (.int ky b)) (hb : 0 ≤ b)
    (h : WO P n R ops md l tl kk (setE e o.dst (.int kd (kd.wrap (a * 2 ^ (min b.toNat kd.bits))))) C) : WO P n R ops md (o :: l) tl kk e C :=
  WO_quiet _ hg (by rw [hop]; rfl) hd (fun ac ha w _ => by
    have hn : ¬ b < 0 := by omega
    unfold execOp
    simp only [hop, ha.ev hx, ha.ev hy, Sem.run_bind, eqGuard_int, Result.andThen_ok, binOp, Op.shift, if_neg hn, Sem.run_pure]) h
theorem WO_shr {t t2 : TypeId} {x y : Operand} {kd ky : IntKind} {a b : Int} (hg : gd ops e o = some true) (hd : dstOk n o.dst = true) (hop : o.op = .binOp .shr t x y t2) (hx : ev e x = some (.int kd a)) (hy : ev e y = some (.int ky b)) (hb : 0 ≤ b)
    (h : WO P n R ops md l tl kk (setE e o.dst (.int kd (a.fdiv (2 ^ (min b.toNat kd.bits))))) C) : WO P n R ops md (o :: l) tl kk e C :=
  WO_quiet _ hg (by rw [hop]; rfl) hd (fun ac ha w _ => by
    have hn : ¬ b < 0 := by omega
    unfold execOp
    simp only [hop, ha.ev hx, ha.ev hy, Sem.run_bind, eqGuard_int, Result.andThen_ok, binOp, Op.shift, if_neg hn, Sem.run_pure]) h

/-! ### Elements -/

def I1 (kd : IntKind) (x : Int) : List Value := [.int kd x]
def B1 (x : Bool) : List Value := [.bool x]
def T2 (p : Int × Int) : List Value := [.int .i64 p.1, .int .i64 p.2]
def T3 (p : Int × Int × Int) : List Value := [.int .i64 p.1, .int .i64 p.2.1, .int .i64 p.2.2]
def T4 (p : Int × Int × Int × Int) : List Value := [.int .i64 p.1, .int .i64 p.2.1, .int .i64 p.2.2.1, .int .i64 p.2.2.2]
def T8 (p : Int × Int × Int × Int × Int × Int × Int × Int) : List Value := [.int .i64 p.1, .int .i64 p.2.1, .int .i64 p.2.2.1, .int .i64 p.2.2.2.1, .int .i64 p.2.2.2.2.1, .int .i64 p.2.2.2.2.2.1, .int .i64 p.2.2.2.2.2.2.1, .int .i64 p.2.2.2.2.2.2.2]

theorem St.sat0 {w : World} (h : St w0 m0 m Ls w) : Sat m0 w := h.sat.le h.le

/-! ### Written no more; made room for; dropped -/

theorem WK_freeze (si : Nat) {L : List Ent} (hL : Ls[si]? = some L) (h : ∀ m', Le m m' → (∀ x ∈ L, m' x.b = some x.obj) → WK P n R kk e (St w0 m0 m' (Ls.set si []))) : WK P n R kk e (St w0 m0 m Ls) := fun a w ha hw =>
  h (view m L) (le_view fun x hx => ((hw.seg hL).at_ x hx).2.2) (fun _ hx => view_mem (hw.seg hL).nd hx) a w ha (hw.freeze hL)
theorem WO_freeze (si : Nat) {L : List Ent} (hL : Ls[si]? = some L) (h : ∀ m', Le m m' → (∀ x ∈ L, m' x.b = some x.obj) → WO P n R ops md l tl kk e (St w0 m0 m' (Ls.set si []))) : WO P n R ops md l tl kk e (St w0 m0 m Ls) := fun a w ha hw hm =>
  h (view m L) (le_view fun x hx => ((hw.seg hL).at_ x hx).2.2) (fun _ hx => view_mem (hw.seg hL).nd hx) a w ha (hw.freeze hL) hm

theorem St.pad {w : World} (h : St w0 m0 m Ls w) : St w0 m0 m (Ls ++ [[]]) w := h.sub (by simp)
theorem WK_pad (h : WK P n R kk e (St w0 m0 m (Ls ++ [[]]))) : WK P n R kk e (St w0 m0 m Ls) := h.cls fun _ hw => hw.pad
theorem WO_pad (h : WO P n R ops md l tl kk e (St w0 m0 m (Ls ++ [[]]))) : WO P n R ops md l tl kk e (St w0 m0 m Ls) := h.cls fun _ hw => hw.pad
theorem WK_take (q : Nat) (h : WK P n R kk e (St w0 m0 m (Ls.take q))) : WK P n R kk e (St w0 m0 m Ls) := h.cls fun _ hw => hw.take q
theorem WO_take (q : Nat) (h : WO P n R ops md l tl kk e (St w0 m0 m (Ls.take q))) : WO P n R ops md l tl kk e (St w0 m0 m Ls) := h.cls fun _ hw => hw.take q

theorem set_nil_sub (Ls : List (List Ent)) (i : Nat) : (Ls.set i []).flatten.Sublist Ls.flatten := by
  by_cases hi : i < Ls.length
  · obtain ⟨A, B, hAB, hset⟩ := seg_split (List.getElem?_eq_getElem hi)
    rw [hset, List.flatten_append, List.flatten_cons, List.nil_append]
    conv => rhs; rw [hAB, List.flatten_append, List.flatten_cons]
    exact List.Sublist.append (List.Sublist.refl _) (List.sublist_append_right _ _)
  · rw [List.set_eq_of_length_le (by omega)]
    exact List.Sublist.refl _
theorem WK_drop (i : Nat) (h : WK P n R kk e (St w0 m0 m (Ls.set i []))) : WK P n R kk e (St w0 m0 m Ls) := h.cls fun _ hw => hw.sub (set_nil_sub Ls i)

end
end Go.E
