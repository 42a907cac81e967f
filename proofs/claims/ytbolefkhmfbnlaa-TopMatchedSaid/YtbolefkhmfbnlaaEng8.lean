/-
  THE ENGINE, 8: slices that are owned and whose elements are told through what they point to; parts spread behind a slice; a slice against nil.
-/
import Derived.Test.YtbolefkhmfbnlaaEng7
namespace Go.E
open Go.RowKit

def V1 (v : Value) : List Value := [v]
def V2 (v : Value × Value) : List Value := [v.1, v.2]
def V3 (v : Value × Value × Value) : List Value := [v.1, v.2.1, v.2.2]
def V4 (v : Value × Value × Value × Value) : List Value := [v.1, v.2.1, v.2.2.1, v.2.2.2]
def V5 (v : Value × Value × Value × Value × Value) : List Value := [v.1, v.2.1, v.2.2.1, v.2.2.2.1, v.2.2.2.2]
def V6 (v : Value × Value × Value × Value × Value × Value) : List Value := [v.1, v.2.1, v.2.2.1, v.2.2.2.1, v.2.2.2.2.1, v.2.2.2.2.2]

def All2 {α β : Type} (R : α → β → Prop) : List α → List β → Prop
  | [], [] => True
  | a :: as, b :: bs => R a b ∧ All2 R as bs
  | _, _ => False

section
variable {α β : Type} {R : α → β → Prop}
theorem All2.len : ∀ {as : List α} {bs : List β}, All2 R as bs → as.length = bs.length
  | [], [], _ => rfl
  | _ :: _, _ :: _, h => by simp [All2.len h.2]
  | [], _ :: _, h => h.elim
  | _ :: _, [], h => h.elim
theorem All2.get : ∀ {as : List α} {bs : List β}, All2 R as bs → ∀ {i : Nat} {b : β}, bs[i]? = some b → ∃ a, as[i]? = some a ∧ R a b
  | [], [], _, i, b, hb => by simp at hb
  | a :: as, b' :: bs, h, 0, b, hb => by
    simp only [List.getElem?_cons_zero, Option.some.injEq] at hb
    subst hb
    exact ⟨a, rfl, h.1⟩
  | a :: as, b' :: bs, h, i + 1, b, hb => by
    simp only [List.getElem?_cons_succ] at hb ⊢
    exact All2.get h.2 hb
  | [], _ :: _, h, _, _, _ => h.elim
  | _ :: _, [], h, _, _, _ => h.elim
theorem All2.get' : ∀ {as : List α} {bs : List β}, All2 R as bs → ∀ {i : Nat} {a : α}, as[i]? = some a → ∃ b, bs[i]? = some b ∧ R a b
  | [], [], _, i, b, hb => by simp at hb
  | a :: as, b' :: bs, h, 0, b, hb => by
    simp only [List.getElem?_cons_zero, Option.some.injEq] at hb
    subst hb
    exact ⟨b', rfl, h.1⟩
  | a :: as, b' :: bs, h, i + 1, b, hb => by
    simp only [List.getElem?_cons_succ] at hb ⊢
    exact All2.get' h.2 hb
  | [], _ :: _, h, _, _, _ => h.elim
  | _ :: _, [], h, _, _, _ => h.elim
theorem All2.app : ∀ {as : List α} {bs : List β} {cs : List α} {ds : List β}, All2 R as bs → All2 R cs ds → All2 R (as ++ cs) (bs ++ ds)
  | [], [], _, _, _, h => h
  | _ :: _, _ :: _, _, _, h, k => ⟨h.1, All2.app h.2 k⟩
  | [], _ :: _, _, _, h, _ => h.elim
  | _ :: _, [], _, _, h, _ => h.elim
theorem All2.put : ∀ {as : List α} {bs : List β} (i : Nat) {a : α} {b : β}, All2 R as bs → R a b → All2 R (as.set i a) (bs.set i b)
  | [], [], _, _, _, h, _ => h
  | _ :: _, _ :: _, 0, _, _, h, k => ⟨k, h.2⟩
  | _ :: _, _ :: _, i + 1, _, _, h, k => ⟨h.1, All2.put i h.2 k⟩
  | [], _ :: _, _, _, _, h, _ => h.elim
  | _ :: _, [], _, _, _, h, _ => h.elim
theorem All2.imp2 {S : α → β → Prop} (hi : ∀ a b, R a b → S a b) : ∀ {as : List α} {bs : List β}, All2 R as bs → All2 S as bs
  | [], [], _ => trivial
  | _ :: _, _ :: _, h => ⟨hi _ _ h.1, All2.imp2 hi h.2⟩
  | [], _ :: _, h => h.elim
  | _ :: _, [], h => h.elim
theorem All2.rep {a : α} {b : β} (h : R a b) : ∀ n : Nat, All2 R (List.replicate n a) (List.replicate n b)
  | 0 => trivial
  | n + 1 => ⟨h, All2.rep h n⟩
end

/-- Owned; each element told by El through its cells. -/
def OwnX {α β : Type} (T k : Nat) (E : α → List Value) (El : Mu → List Value → β → Prop) (m : Mu) (v : Value) (xs : List β) (L : List Ent) : Prop :=
  ∃ vs : List α, OwnE T k E v vs L ∧ All2 (fun u x => El m (E u) x) vs xs

theorem SlR.conv {α β : Type} {E : α → List Value} {El : Mu → List Value → β → Prop} {k : Nat} {m : Mu} {v : Value} {vs : List α} {xs : List β} (h : SlR (FE E) k m v vs) (h2 : All2 (fun u x => El m (E u) x) vs xs) : SlR El k m v xs := by
  obtain ⟨ao, cap, h1, h3, h4, h5, h6⟩ := h
  have hl := h2.len
  refine ⟨ao, cap, by rw [← hl]; exact h1, by omega, h4, h5, fun i x hx => ?_⟩
  obtain ⟨u, hu, hr⟩ := h2.get hx
  obtain ⟨a, cells, T, fr, cs, q1, q2, q3, q4, q5, q6⟩ := h6 i u hu
  have q6' : cs = E u := q6
  subst q6'
  exact ⟨a, cells, T, fr, E u, q1, q2, q3, q4, q5, hr⟩

section
variable {α β : Type} {T k : Nat} {E : α → List Value} {El : Mu → List Value → β → Prop} {m m' : Mu} {v : Value} {xs : List β} {L : List Ent}
theorem OwnX.mono (h : OwnX T k E El m v xs L) (hE : Mono El) (hl : Le m m') : OwnX T k E El m' v xs L :=
  let ⟨vs, h1, h2⟩ := h
  ⟨vs, h1, h2.imp2 fun _ _ hr => hE _ _ _ _ hl hr⟩
theorem OwnX.addr (h : OwnX T k E El m v xs L) : AddrAt v xs.length := by
  obtain ⟨vs, h1, h2⟩ := h
  have := h1.addr
  rw [h2.len] at this
  exact this
theorem OwnX.rd (hE : ∀ x, (E x).length = k) (h : OwnX T k E El m v xs L) (hM : Mono El) (hl : Le m m') (hm : ∀ x ∈ L, m' x.b = some x.obj) : SlR El k m' v xs := by
  obtain ⟨vs, h1, h2⟩ := h
  exact (h1.rd hE hm).conv (h2.imp2 fun _ _ hr => hM _ _ _ _ hl hr)
theorem OwnX.qlen {a : Option Addr} {q c : Nat} (h : OwnX T k E El m (.slice a q c) xs L) : q = xs.length := by
  obtain ⟨vs, h1, h2⟩ := h
  rw [h1.qlen, h2.len]
theorem OwnX.nil (ao : Option Addr) : OwnX T k E El m (.slice ao 0 0) [] [] := ⟨[], OwnE.nil ao, trivial⟩
end

theorem one_lit {α : Type} {E : α → List Value} {ys : List α} (h : (ys.all fun y => (E y).all Value.oneCell') = true) : ∀ x ∈ ys, (E x).all Value.oneCell' = true := fun x hx => List.all_eq_true.1 h x hx

section
variable {P : Program} {n : Nat} {R : Act → World → Prop} {ops : Array Oper} {md : Option (World → Prop)} {l : List Oper} {tl : Act → World → Prop} {kk : List KI} {e : Env} {C : World → Prop}
variable {w0 : World} {m0 m : Mu} {Ls : List (List Ent)} {tb : Tab} {o : Oper} {α β : Type} {k : Nat} {E : α → List Value} {El : Mu → List Value → β → Prop}

theorem WO_loadOX (htb : TabOk P tb) (hE : ∀ x, (E x).length = k) (si : Nat) {T T' : TypeId} {x : Operand} {v : Value} {xs : List β} {L : List Ent} {i : Nat} {y : β} {w0' : World} {m0' m' : Mu} {Ls' : List (List Ent)} (hg : gd ops e o = some true) (hd : dstOk n o.dst = true) (hop : o.op = .load T x)
    (hx : ev e x = some (.pointer (some (eAddr v k i)))) (hF : ∀ w, (md.getD C) w → St w0' m0' m' Ls' w) (ho : OwnX T' k E El m v xs L) (hL : Ls'[si]? = some L) (hy : xs[i]? = some y)
    (h : ∀ cs, El m cs y → ∃ u, bload tb T cs 0 = some u ∧ WO P n R ops md l tl kk (setE e o.dst u) C) : WO P n R ops md (o :: l) tl kk e C := by
  obtain ⟨vs, h1, h2⟩ := ho
  obtain ⟨q, hq, hr⟩ := h2.get hy
  obtain ⟨u, hu, hw⟩ := h _ hr
  exact WO_loadO htb hE si hg hd hop hx hF h1 hL hq hu hw

theorem WO_makeX (htb : TabOk P tb) (hE : ∀ x, (E x).length = k) (hk0 : 0 < k) {T el : TypeId} {ti te : TI} {ln cp : Operand} {kl kc : IntKind} {len cap : Int} {z : Value} (y : α) (d : β) (hg : gd ops e o = some true) (hd : dstOk n o.dst = true) (hcl : MdCl md) (hop : o.op = .makeSlice T ln cp)
    (hln : ev e ln = some (.int kl len)) (hcp : ev e cp = some (.int kc cap)) (hT : tget tb T = some ti) (hds : ti.desc = .slice el) (hel : tget tb el = some te) (hk : te.size = k) (hz : te.zero = some z) (hzy : z.cells.toList = E y)
    (h0 : 0 ≤ len ∧ len ≤ cap ∧ (te.bytes : Int) * cap ≤ 281474976710656 ∧ cap ≤ 9223372036854775807) (hdef : El m (E y) d)
    (h : ∀ b cap' L, OwnX el k E El m (.slice (some ⟨b, 0, none⟩) (List.replicate len.toNat d).length cap') (List.replicate len.toNat d) L → WO P n R ops md l tl kk (setE e o.dst (.slice (some ⟨b, 0, none⟩) (List.replicate len.toNat d).length cap')) (St w0 m0 m (Ls ++ [L]))) :
    WO P n R ops md (o :: l) tl kk e (St w0 m0 m Ls) := by
  refine WO_make htb hE hk0 y hg hd hcl hop hln hcp hT hds hel hk hz hzy h0 (fun b cap' L hL => ?_)
  have he : (List.replicate len.toNat y).length = (List.replicate len.toNat d).length := by simp
  rw [he] at hL ⊢
  exact h b cap' L ⟨_, hL, All2.rep (R := fun u x => El m (E u) x) hdef _⟩

theorem WO_bsliceX (htb : TabOk P tb) (hE : ∀ x, (E x).length = k) (hk0 : 0 < k) {T el : TypeId} {ti te : TI} {len : Nat} {ps : Array (Nat × Operand)} (vs : List Value) (us : List α) (xs : List β) {z : Value} (hg : gd ops e o = some true) (hd : dstOk n o.dst = true) (hcl : MdCl md) (hop : o.op = .buildSlice T len ps)
    (hps : evPairs e ps.toList = some (number 0 vs)) (hT : tget tb T = some ti) (hds : ti.desc = .slice el) (hel : tget tb el = some te) (hk : te.size = k) (hz : te.zero = some z) (hlen : Nat.beq vs.length len = true) (hlx : Nat.beq us.length len = true) (hsm : Nat.ble (len * k) 16777216 = true)
    (hvs : vs.all (fun v => Nat.beq v.cells.toList.length k) = true) (hcells : vs.flatMap (fun v => v.cells.toList) = us.flatMap E) (h2 : All2 (fun u x => El m (E u) x) us xs)
    (h : ∀ b, OwnX el k E El m (.slice (some ⟨b, 0, none⟩) len len) xs [⟨b, el, us.flatMap E⟩] → WO P n R ops md l tl kk (setE e o.dst (.slice (some ⟨b, 0, none⟩) len len)) (St w0 m0 m (Ls ++ [[⟨b, el, us.flatMap E⟩]]))) :
    WO P n R ops md (o :: l) tl kk e (St w0 m0 m Ls) :=
  WO_bslice htb hE hk0 vs us hg hd hcl hop hps hT hds hel hk hz hlen hlx hsm hvs hcells (fun b hb => h b ⟨us, hb, h2⟩)

theorem WO_appendX (htb : TabOk P tb) (hE : ∀ x, (E x).length = k) (si : Nat) {c : Call} {T el : TypeId} {ti te : TI} {v z : Value} {xs : List β} (us : List α) (ys : List β) (hone : ∀ x ∈ us, (E x).all Value.oneCell' = true) {L : List Ent} {ad : Addr} {cp : Nat} (hg : gd ops e o = some true) (hd : dstOk n o.dst = true) (hop : o.op = .call c)
    (hc : c.callee = .builtin .append) (hargs : evs e c.args.toList = some [v, .slice (some ad) us.length cp]) (hty : c.argTypes.toList = [T, T]) (hT : tget tb T = some ti) (hds : ti.desc = .slice el) (hel : tget tb el = some te) (hk : te.size = k) (hz : te.zero = some z) (hzs : z.cells.size = k)
    (ho : OwnX el k E El m v xs L) (hL : Ls[si]? = some L) (hsrc : ∀ w, St w0 m0 m Ls w → ∀ (j : Nat) u, (us.flatMap E)[j]? = some u → w.cell? (ad.add j) = some u) (h2 : All2 (fun u x => El m (E u) x) us ys)
    (hb : (xs.length + ys.length) * te.bytes ≤ 140737488355328) (hm : xs.length + ys.length ≤ maxLen)
    (h : ∀ ao cap L', OwnX el k E El m (.slice ao (xs ++ ys).length cap) (xs ++ ys) L' → WO P n R ops none l tl kk (setE e o.dst (.slice ao (xs ++ ys).length cap)) (St w0 m0 m (Ls.set si L'))) : WO P n R ops none (o :: l) tl kk e (St w0 m0 m Ls) := by
  obtain ⟨vs, h1, h3⟩ := ho
  have e1 := h3.len
  have e2 := h2.len
  have e3 : (vs ++ us).length = (xs ++ ys).length := by simp [e1, e2]
  refine WO_append htb hE si us hone hg hd hop hc hargs hty hT hds hel hk hz hzs h1 hL hsrc (by rw [e1, e2]; exact hb) (by rw [e1, e2]; exact hm) (fun ao cap L' hL' => ?_)
  rw [e3] at hL' ⊢
  exact h ao cap L' ⟨_, hL', h3.app h2⟩

theorem WO_storeOX (htb : TabOk P tb) (hE : ∀ x, (E x).length = k) (si : Nat) {T T' : TypeId} {te : TI} {p x : Operand} {v u : Value} {xs : List β} {L : List Ent} {i : Nat} (q : α) (y : β) (hg : gd ops e o = some true) (hd : dstOk n o.dst = true) (hop : o.op = .store T p x)
    (hp : ev e p = some (.pointer (some (eAddr v k i)))) (hx : ev e x = some u) (ho : OwnX T' k E El m v xs L) (hL : Ls[si]? = some L) (hi : i < xs.length) (hT : tget tb T = some te) (hk : te.size = k) (hu : u.cells.toList = E q) (h1 : (E q).all Value.oneCell' = true) (hy : El m (E q) y)
    (h : ∀ L', OwnX T' k E El m v (xs.set i y) L' → WO P n R ops none l tl kk (setE e o.dst undef) (St w0 m0 m (Ls.set si L'))) : WO P n R ops none (o :: l) tl kk e (St w0 m0 m Ls) := by
  obtain ⟨vs, h3, h4⟩ := ho
  exact WO_storeO htb hE si q hg hd hop hp hx h3 hL (by rw [h4.len]; exact hi) hT hk hu h1 (fun L' hL' => h L' ⟨_, hL', h4.put i hy⟩)

/-! ### A slice spread behind one that is owned -/

theorem run_append_none (t ty el : TypeId) (i : TypeInfo) (ht : P.underlying t = some (.slice el)) (hi : P.info? el = some i) (ao : Option Addr) (len cap cp : Nat) (hl : len ≤ cap) (w : World) :
    (Builtin.append_ #[t, t] ty #[.slice ao len cap, .slice none 0 cp]).run P w = .ok (.slice ao len cap) w := by
  cases ao with
  | none => simp [Builtin.append_, run_underlying ht, sizeOf, typeInfo, hi, Builtin.lenOf, Builtin.firstCells, hl]
  | some a => simp [Builtin.append_, run_underlying ht, sizeOf, typeInfo, hi, Builtin.lenOf, Builtin.firstCells, hl, storeCells]

theorem WO_appendS (htb : TabOk P tb) (hE : ∀ x, (E x).length = k) (hk0 : 0 < k) (hone : ∀ x, (E x).all Value.oneCell' = true) (si : Nat) {c : Call} {T el : TypeId} {ti te : TI} {v z : Value} {xs : List α} (ys : List α) {L : List Ent} {ad : Option Addr} {q cp : Nat} (hg : gd ops e o = some true) (hd : dstOk n o.dst = true) (hop : o.op = .call c)
    (hc : c.callee = .builtin .append) (hargs : evs e c.args.toList = some [v, .slice ad q cp]) (hty : c.argTypes.toList = [T, T]) (hT : tget tb T = some ti) (hds : ti.desc = .slice el) (hel : tget tb el = some te) (hk : te.size = k) (hz : te.zero = some z) (hzs : z.cells.size = k)
    (ho : OwnE el k E v xs L) (hL : Ls[si]? = some L) (hsrc : ∀ w, St w0 m0 m Ls w → ∃ m', Sat m' w ∧ SlR (FE E) k m' (.slice ad q cp) ys) (hb : (xs.length + ys.length) * te.bytes ≤ 140737488355328) (hm : xs.length + ys.length ≤ maxLen)
    (h : ∀ ao cap L', OwnE el k E (.slice ao (xs ++ ys).length cap) (xs ++ ys) L' → WO P n R ops none l tl kk (setE e o.dst (.slice ao (xs ++ ys).length cap)) (St w0 m0 m (Ls.set si L'))) : WO P n R ops none (o :: l) tl kk e (St w0 m0 m Ls) :=
  WO_write (G := {p : Option Addr × Nat × List Ent // OwnE el k E (.slice p.1 (xs ++ ys).length p.2.1) (xs ++ ys) p.2.2}) (fun g => .slice g.1.1 (xs ++ ys).length g.1.2.1) (fun g => St w0 m0 m (Ls.set si g.1.2.2)) hg hd
    (fun a w ha hw => by
      obtain ⟨m', hs1, hs2⟩ := hsrc w hw
      obtain rfl := hs2.qlen
      cases ad with
      | some a0 =>
        obtain ⟨ao, cap, L', w', h1, h2, h3⟩ := run_append_own' (ty := o.type) (cp := cp) htb hE (fun x _ => hone x) hT hds hel hk hz hzs hw ho hL (src_read hk0 hE hs2 hs1) hb hm
        exact ⟨⟨(ao, cap, L'), h2⟩, w', .inl (exec_append hop hc (ha.evs hargs) hty h1), h3⟩
      | none =>
        obtain ⟨ao1, cap1, q1, q2, q3, q4, _⟩ := hs2
        simp only [Value.slice.injEq] at q1
        obtain ⟨rfl, _, rfl⟩ := q1
        have hy0 : ys.length = 0 := by have := q4 rfl; omega
        have hys : ys = [] := List.eq_nil_of_length_eq_zero hy0
        subst hys
        obtain ⟨ao, cap, hv⟩ := ho.shape
        have hlc : xs.length ≤ cap := by
          rcases ho with ⟨_, hv2, rfl, _⟩ | ⟨_, _, _, hv2, _, _, h4, _⟩
          · exact Nat.zero_le _
          · rw [hv] at hv2
            simp only [Value.slice.injEq] at hv2
            omega
        obtain ⟨f, hf, _⟩ := (htb _ _ hel).typeInfo
        have ht : P.underlying T = some (.slice el) := by rw [(htb _ _ hT).und, hds]
        have hr := run_append_none (P := P) T o.type el f ht hf ao xs.length cap cp hlc w
        rw [← hv] at hr
        refine ⟨⟨(ao, cap, L), by simpa [hv] using ho⟩, w, .inl (exec_append hop hc (ha.evs hargs) hty (by simpa [hv] using hr)), ?_⟩
        have : Ls.set si L = Ls := by
          apply List.ext_getElem?
          intro j
          by_cases hj : si = j
          · subst hj; rw [hL, List.getElem?_set_self (List.getElem?_eq_some_iff.1 hL).1]
          · rw [List.getElem?_set_ne hj]
        show St w0 m0 m (Ls.set si L) w
        rw [this]; exact hw) (fun g => h _ _ _ g.2)

theorem run_eqnil_in {P : Program} {T el : TypeId} (h : P.underlying T = some (.slice el)) (d : Nat) (a : Option Addr) (q c q' c' : Nat) (w : World) : (Op.equalIn (d + 1) T (.slice a q c) (.slice none q' c')).run P w = .ok a.isNone w := by
  cases a <;> simp [Op.equalIn, run_underlying h]
theorem run_eqnil {P : Program} {T el : TypeId} (h : P.underlying T = some (.slice el)) (a : Option Addr) (q c q' c' : Nat) (w : World) : (binOp .eql T (.slice a q c) (.slice none q' c')).run P w = .ok (.bool a.isNone) w := by
  have he : (Op.equal T (.slice a q c) (.slice none q' c')).run P w = .ok a.isNone w := run_eqnil_in h 9999 a q c q' c' w
  simp only [binOp]
  simp [he]

theorem WO_eqnil (htb : TabOk P tb) {T el t2 : TypeId} {ti : TI} {x y : Operand} {a : Option Addr} {q c q' c' : Nat} (hg : gd ops e o = some true) (hd : dstOk n o.dst = true) (hop : o.op = .binOp .eql T x y t2)
    (hx : ev e x = some (.slice a q c)) (hy : ev e y = some (.slice none q' c')) (hT : tget tb T = some ti) (hds : ti.desc = .slice el)
    (h : WO P n R ops md l tl kk (setE e o.dst (.bool a.isNone)) C) : WO P n R ops md (o :: l) tl kk e C :=
  WO_quiet _ hg (by rw [hop]; rfl) hd (fun ac ha w _ => by
    have ht : P.underlying T = some (.slice el) := by rw [(htb _ _ hT).und, hds]
    have hgd : (eqGuard .eql T x y (.slice a q c) (.slice none q' c')).run P w = .ok () w := rfl
    unfold execOp
    simp only [hop, ha.ev hx, ha.ev hy, Sem.run_bind, hgd, Result.andThen_ok, run_eqnil ht, Sem.run_pure]) h

theorem SlR.none_nil {α : Type} {El : Mu → List Value → α → Prop} {k : Nat} {m' : Mu} {q c : Nat} {xs : List α} (h : SlR El k m' (.slice none q c) xs) : xs = [] ∧ q = 0 ∧ c = 0 := by
  obtain ⟨ao, cap, h1, h2, _, h4, _⟩ := h
  simp only [Value.slice.injEq] at h1
  obtain ⟨rfl, rfl, rfl⟩ := h1
  have := h4 rfl
  exact ⟨List.eq_nil_of_length_eq_zero (by omega), by omega, this⟩

end
end Go.E
