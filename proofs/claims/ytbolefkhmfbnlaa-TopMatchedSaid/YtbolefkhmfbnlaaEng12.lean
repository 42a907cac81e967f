/-
  THE ENGINE, 12: copy.
-/
import Derived.Test.YtbolefkhmfbnlaaEng11
import Derived.Laws.IdiomCopy
namespace Go.E
open Go.RowKit

section
variable {P : Program} {tb : Tab} {n : Nat} {R : Act → World → Prop} {ops : Array Oper} {l : List Oper} {tl : Act → World → Prop} {kk : List KI} {e : Env} {o : Oper} {w0 : World} {m0 m : Mu} {Ls : List (List Ent)} {α : Type} {E : α → List Value}

theorem exec_copy {a : Act} {c : Call} (hop : o.op = .call c) (hc : c.callee = .builtin .copy) {v x : Value} (hargs : c.args.toList.map a.eval = [v, x]) {T : TypeId} (hty : c.argTypes.toList = [T, T]) {r : Value} {w w' : World}
    (hr : (Builtin.copy_ #[T, T] o.type #[v, x]).run P w = .ok r w') : (execOp a.eval o).run P w = .ok (.value r) w' := by
  have hm : c.args.map a.eval = #[v, x] := by rw [show (#[v, x] : Array Value) = [v, x].toArray from rfl, ← hargs]; cases c.args; simp
  have ht : c.argTypes = #[T, T] := by cases h : c.argTypes; simp_all
  unfold execOp
  simp only [hop, resolve, hc, hm, ht, Sem.run_bind, Sem.run_pure, Result.andThen_ok, invoke, builtin, hr]

theorem set_self' {i : Nat} {L : List Ent} (hL : Ls[i]? = some L) : Ls.set i L = Ls := by
  apply List.ext_getElem?
  intro j
  by_cases hj : i = j
  · subst hj; rw [hL, List.getElem?_set_self (List.getElem?_eq_some_iff.1 hL).1]
  · rw [List.getElem?_set_ne hj]

theorem run_copy_own {T' : Nat} (htb : TabOk P tb) (hE : ∀ x, (E x).length = 1) (hone : ∀ x, (E x).all Value.oneCell' = true) {T el ty : TypeId} {ti te : TI} {v : Value} {xs ys : List α} {L : List Ent} {si lo q cap' cs' : Nat} {ad as : Option Addr} {w : World} {m' : Mu}
    (hT : tget tb T = some ti) (hds : ti.desc = .slice el) (hel : tget tb el = some te) (hk : te.size = 1) (hst : St w0 m0 m Ls w) (ho : OwnE T' 1 E v xs L) (hL : Ls[si]? = some L) (hlo : lo + q ≤ xs.length) (hda : DstAt v 1 lo ad)
    (hs1 : Sat m' w) (hs2 : SlR (FE E) 1 m' (.slice as ys.length cs') ys) :
    ∃ L' w', (Builtin.copy_ #[T, T] ty #[.slice ad q cap', .slice as ys.length cs']).run P w = .ok (.int .i64 (cpn q ys)) w' ∧ OwnE T' 1 E v (cpy xs lo q ys) L' ∧ St w0 m0 m (Ls.set si L') w' := by
  obtain ⟨f, hf, f1, f2, f3⟩ := (htb _ _ hel).typeInfo
  have ht : P.underlying T = some (.slice el) := by rw [(htb _ _ hT).und, hds]
  have hsz : (P.info? el).map (·.size) = some 1 := by rw [hf]; simp [f1, hk]
  by_cases hn : min ys.length q = 0
  · refine ⟨L, w, ?_, ?_, by rw [set_self' hL]; exact hst⟩
    · rw [run_copy_none w T T ty el ad as q cap' ys.length cs' ht hsz hn]
      simp only [cpn, hn]; rfl
    · have : cpy xs lo q ys = xs := by simp [cpy, hn]
      rw [this]; exact ho
  · have hlen : (cpy xs lo q ys).length = xs.length := by
      simp only [cpy, List.length_append, List.length_take, List.length_drop]; omega
    rcases ho with ⟨ao, rfl, rfl, rfl⟩ | ⟨b, cap, rest, rfl, rfl, h3, h4, h5⟩
    · simp only [List.length_nil] at hlo; omega
    · obtain rfl := hda b _ _ rfl (by omega)
      rw [Nat.mul_one]
      cases as with
      | none =>
        obtain ⟨ao, cap, q1, q2, q3, q4, _⟩ := hs2
        simp only [Value.slice.injEq] at q1
        have := q4 q1.1.symm
        omega
      | some a0 =>
        have hsrc := src_read (by decide) hE hs2 hs1
        have hheap := ((hst.seg hL).at_ _ (List.mem_singleton.2 rfl)).1
        have hcl : ((ys.flatMap E).take (min ys.length q)).length = min ys.length q := by rw [List.length_take, fm_len hE, Nat.mul_one]; omega
        have hfit : lo + ((ys.flatMap E).take (min ys.length q)).length ≤ (xs.flatMap E ++ rest).toArray.size := by
          rw [hcl, List.size_toArray, h3]; omega
        have hr := run_copy_row (P := P) w T T ty el b lo q cap' a0 ys.length cs' (xs.flatMap E ++ rest).toArray T' ((ys.flatMap E).take (min ys.length q)) ht hsz hheap hcl
          (fun j u hu => hsrc j u (by rw [List.getElem?_take] at hu; split at hu <;> simp_all)) hfit (fun u hu => by
            obtain ⟨y, hym, hy⟩ := List.mem_flatMap.1 (List.mem_of_mem_take hu)
            exact List.all_eq_true.1 (hone y) u hy)
        have htk : ∀ (zs : List α) (j : Nat), (zs.flatMap E).take j = (zs.take j).flatMap E := fun zs => by
          induction zs with
          | nil => intro j; simp
          | cons z zs ih =>
            intro j
            cases j with
            | zero => simp
            | succ j =>
              rw [List.flatMap_cons, List.take_succ_cons, List.flatMap_cons, show j + 1 = (E z).length + j by rw [hE]; omega, List.take_length_add_append, ih]
        have hdr : ∀ (zs : List α) (j : Nat), (zs.flatMap E).drop j = (zs.drop j).flatMap E := fun zs => by
          induction zs with
          | nil => intro j; simp
          | cons z zs ih =>
            intro j
            cases j with
            | zero => simp
            | succ j =>
              rw [List.flatMap_cons, List.drop_succ_cons, show j + 1 = (E z).length + j by rw [hE]; omega, List.drop_length_add_append, ih]
        have hxl : (xs.flatMap E).length = xs.length := by rw [fm_len hE, Nat.mul_one]
        have hcs : (xs.flatMap E ++ rest).toArray.toList.take lo ++ (ys.flatMap E).take (min ys.length q) ++ (xs.flatMap E ++ rest).toArray.toList.drop (lo + ((ys.flatMap E).take (min ys.length q)).length) = (cpy xs lo q ys).flatMap E ++ rest := by
          rw [hcl]
          simp only [cpy, List.flatMap_append]
          rw [List.take_append_of_le_length (by rw [hxl]; omega), List.drop_append_of_le_length (by rw [hxl]; omega), htk, htk, hdr]
          simp only [List.append_assoc]
        rw [hcs] at hr
        refine ⟨[⟨b, T', (cpy xs lo q ys).flatMap E ++ rest⟩], _, ?_, .inr ⟨b, cap, rest, by rw [hlen], rfl, ?_, by rw [hlen]; exact h4, h5⟩, hst.setRow hL⟩
        · rw [hr, hcl]; rfl
        · rw [List.length_append, fm_len hE, hlen, ← fm_len hE xs, ← List.length_append]
          exact h3

theorem WO_copy {T' : Nat} (htb : TabOk P tb) (hE : ∀ x, (E x).length = 1) (hone : ∀ x, (E x).all Value.oneCell' = true) (si lo : Nat) {c : Call} {T el : TypeId} {ti te : TI} {v : Value} {xs : List α} (ys : List α) {L : List Ent} {ad as : Option Addr} {q q' cap' cs' : Nat} (dn : Nat) (hg : gd ops e o = some true) (hd : dstOk n o.dst = true) (hop : o.op = .call c)
    (hc : c.callee = .builtin .copy) (hargs : evs e c.args.toList = some [.slice ad q cap', .slice as q' cs']) (hty : c.argTypes.toList = [T, T]) (hT : tget tb T = some ti) (hds : ti.desc = .slice el) (hel : tget tb el = some te) (hk : te.size = 1)
    (ho : OwnE T' 1 E v xs L) (hL : Ls[si]? = some L) (hdn : q = dn) (hlo : lo + dn ≤ xs.length) (hda : DstAt v 1 lo ad) (hsrc : ∀ w, St w0 m0 m Ls w → ∃ m', Sat m' w ∧ SlR (FE E) 1 m' (.slice as q' cs') ys)
    (h : ∀ L', OwnE T' 1 E v (cpy xs lo dn ys) L' → WO P n R ops none l tl kk (setE e o.dst (.int .i64 (cpn dn ys))) (St w0 m0 m (Ls.set si L'))) : WO P n R ops none (o :: l) tl kk e (St w0 m0 m Ls) :=
  WO_write (G := {p : List Ent // OwnE T' 1 E v (cpy xs lo dn ys) p}) (fun _ => .int .i64 (cpn dn ys)) (fun g => St w0 m0 m (Ls.set si g.1)) hg hd
    (fun a w ha hw => by
      subst hdn
      obtain ⟨m', hs1, hs2⟩ := hsrc w hw
      obtain rfl := hs2.qlen
      obtain ⟨L', w', h1, h2, h3⟩ := run_copy_own (ty := o.type) htb hE hone hT hds hel hk hw ho hL hlo hda hs1 hs2
      exact ⟨⟨L', h2⟩, w', .inl (exec_copy hop hc (ha.evs hargs) hty h1), h3⟩) (fun g => h _ g.2)
end
end Go.E
