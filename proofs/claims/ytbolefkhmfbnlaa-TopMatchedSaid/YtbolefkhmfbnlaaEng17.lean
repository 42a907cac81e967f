/-
  THE ENGINE, 17: clear, of a part of an owned slice; an iterator over the elements of a slice.
-/
import Derived.Test.YtbolefkhmfbnlaaEng16
namespace Go.E
open Go.RowKit

section
variable {P : Program} {tb : Tab} {n : Nat} {R : Act → World → Prop} {ops : Array Oper} {l : List Oper} {tl : Act → World → Prop} {kk : List KI} {e : Env} {o : Oper} {w0 : World} {m0 m : Mu} {Ls : List (List Ent)} {α : Type} {E : α → List Value}

theorem exec_clear {a : Act} {c : Call} (hop : o.op = .call c) (hc : c.callee = .builtin .clear) {v : Value} (hargs : c.args.toList.map a.eval = [v]) {T : TypeId} (hty : c.argTypes.toList = [T]) {r : Value} {w w' : World}
    (hr : (Builtin.clear_ #[T] o.type #[v]).run P w = .ok r w') : (execOp a.eval o).run P w = .ok (.value r) w' := by
  have hm : c.args.map a.eval = #[v] := by rw [show (#[v] : Array Value) = [v].toArray from rfl, ← hargs]; cases c.args; simp
  have ht : c.argTypes = #[T] := by cases h : c.argTypes; simp_all
  unfold execOp
  simp only [hop, resolve, hc, hm, ht, Sem.run_bind, Sem.run_pure, Result.andThen_ok, invoke, builtin, hr]

theorem clr_len {xs : List α} {lo q : Nat} {y0 : α} (h : lo + q ≤ xs.length) : (clr xs lo q y0).length = xs.length := by
  simp only [clr, List.length_append, List.length_take, List.length_drop, List.length_replicate]; omega

theorem zeroCells_one (z : Value) (n : Nat) : (Builtin.zeroCells #[z] n).toList = List.replicate n z := by
  unfold Builtin.zeroCells
  apply List.ext_getElem
  · simp
  · intro i h1 h2
    simp [Nat.mod_one]

theorem run_clear_own {T' : Nat} (htb : TabOk P tb) (hE : ∀ x, (E x).length = 1) {T el ty : TypeId} {ti te : TI} {z : Value} {y0 : α} {v : Value} {xs : List α} {L : List Ent} {si lo q cap' : Nat} {ad : Option Addr} {w : World}
    (hT : tget tb T = some ti) (hds : ti.desc = .slice el) (hel : tget tb el = some te) (hz : te.zero = some z) (hzc : z.cells = #[z]) (hy : E y0 = [z]) (h1 : z.oneCell' = true) (hst : St w0 m0 m Ls w) (ho : OwnE T' 1 E v xs L) (hL : Ls[si]? = some L) (hlo : lo + q ≤ xs.length) (hw : Vw v 1 lo q (.slice ad q cap')) :
    ∃ L' w', (Builtin.clear_ #[T] ty #[.slice ad q cap']).run P w = .ok (.tuple #[]) w' ∧ OwnE T' 1 E v (clr xs lo q y0) L' ∧ St w0 m0 m (Ls.set si L') w' := by
  have hq0 : 0 < q := hw.1
  have hu := (htb _ _ hT).run_und w
  rw [hds] at hu
  have hzr := (htb _ _ hel).run_zero hz w
  obtain ⟨b0, cap0, q0, hb1, hb2⟩ := hw.base ho
  rcases ho with ⟨ao, h3, rfl, _⟩ | ⟨b, cap, rest, rfl, rfl, h3, h4, h5⟩
  · simp only [List.length_nil] at hlo; omega
  · simp only [Value.slice.injEq, Option.some.injEq, Addr.mk.injEq] at hb1 hb2
    obtain ⟨⟨rfl, _, _⟩, _, rfl⟩ := hb1
    obtain ⟨rfl, _, rfl⟩ := hb2
    rw [Nat.mul_one]
    have hheap := ((hst.seg hL).at_ _ (List.mem_singleton.2 rfl)).1
    have hxl : (xs.flatMap E).length = xs.length := by rw [fm_len hE, Nat.mul_one]
    have htk : ∀ (zs : List α) (j : Nat), (zs.flatMap E).take j = (zs.take j).flatMap E := fun zs => by
      induction zs with
      | nil => intro j; simp
      | cons z zs ih =>
        intro j
        cases j with
        | zero => simp
        | succ j =>
          rw [List.flatMap_cons, List.take_succ_cons, List.flatMap_cons, show j + 1 = (E z).length + j by rw [hE]; omega, List.take_length_add_append, ih]
    have hdr : ∀ (zs : List α) (j : Nat), (zs.flatMap E).drop j = (zs.drop j).flatMap E := fun zs => by
      induction zs with
      | nil => intro j; simp
      | cons z zs ih =>
        intro j
        cases j with
        | zero => simp
        | succ j =>
          rw [List.flatMap_cons, List.drop_succ_cons, show j + 1 = (E z).length + j by rw [hE]; omega, List.drop_length_add_append, ih]
    have hrep : ∀ k : Nat, (List.replicate k y0).flatMap E = List.replicate k z := fun k => by
      induction k with
      | zero => rfl
      | succ k ih => rw [List.replicate_succ, List.flatMap_cons, ih, hy]; rfl
    have hst2 := run_storeCells_at P b lo T' (List.replicate q z) 0 (xs.flatMap E ++ rest).toArray w hheap (by
      simp only [List.size_toArray, List.length_append, List.length_replicate, hxl]; omega) (fun u hu => by rw [List.eq_of_mem_replicate hu]; exact h1)
    have hcs : (xs.flatMap E ++ rest).toArray.toList.take (lo + 0) ++ List.replicate q z ++ (xs.flatMap E ++ rest).toArray.toList.drop (lo + 0 + (List.replicate q z).length) = (clr xs lo q y0).flatMap E ++ rest := by
      rw [List.length_replicate, Nat.add_zero]
      simp only [clr, List.flatMap_append]
      rw [List.take_append_of_le_length (by rw [hxl]; omega), List.drop_append_of_le_length (by rw [hxl]; omega), htk, hdr, hrep]
      simp only [List.append_assoc]
    rw [hcs] at hst2
    have hlen := clr_len (y0 := y0) hlo
    refine ⟨[⟨b, T', (clr xs lo q y0).flatMap E ++ rest⟩], _, ?_, .inr ⟨b, cap, rest, by rw [hlen], rfl, ?_, by rw [hlen]; exact h4, h5⟩, hst.setRow hL⟩
    · have hzz : (Builtin.zeroCells z.cells q).toList = List.replicate q z := by rw [hzc, zeroCells_one]
      obtain ⟨q', rfl⟩ : ∃ q', q = q' + 1 := ⟨q - 1, by omega⟩
      simp [Builtin.clear_, hu, hzr, hzz, hst2]
    · rw [List.length_append, fm_len hE, hlen, ← fm_len hE xs, ← List.length_append]
      exact h3

theorem WO_clear {T' : Nat} (htb : TabOk P tb) (hE : ∀ x, (E x).length = 1) (si lo : Nat) {c : Call} {T el : TypeId} {ti te : TI} {z : Value} (y0 : α) {v : Value} {xs : List α} {L : List Ent} {ad : Option Addr} {q cap' : Nat} (hg : gd ops e o = some true) (hd : dstOk n o.dst = true) (hop : o.op = .call c)
    (hc : c.callee = .builtin .clear) (hargs : evs e c.args.toList = some [.slice ad q cap']) (hty : c.argTypes.toList = [T]) (hT : tget tb T = some ti) (hds : ti.desc = .slice el) (hel : tget tb el = some te) (hz : te.zero = some z) (hzc : z.cells = #[z]) (hy : E y0 = [z]) (h1 : z.oneCell' = true)
    (ho : OwnE T' 1 E v xs L) (hw : Vw v 1 lo q (.slice ad q cap')) (hL : Ls[si]? = some L) (hlo : lo + q ≤ xs.length)
    (h : ∀ L', OwnE T' 1 E v (clr xs lo q y0) L' → WO P n R ops none l tl kk (setE e o.dst (.tuple #[])) (St w0 m0 m (Ls.set si L'))) : WO P n R ops none (o :: l) tl kk e (St w0 m0 m Ls) :=
  WO_write (G := {p : List Ent // OwnE T' 1 E v (clr xs lo q y0) p}) (fun _ => .tuple #[]) (fun g => St w0 m0 m (Ls.set si g.1)) hg hd
    (fun a w ha hww => by
      obtain ⟨L', w', h2, h3, h4⟩ := run_clear_own (ty := o.type) htb hE hT hds hel hz hzc hy h1 hww ho hL hlo hw
      exact ⟨⟨L', h3⟩, w', .inl (exec_clear hop hc (ha.evs hargs) hty h2), h4⟩) (fun g => h _ g.2)
end

/-- What an iterator over the elements of a slice hands over. -/
def EvI (q : IntKind) (x : Int) (v : Value) : Prop := v = .int q x
end Go.E
