/-
  THE ENGINE, 6: slices: indexes, elements, make, append, literals, parts, and what is written no more.
-/
import Derived.Test.YtbolefkhmfbnlaaEng5
namespace Go.E
open Go.RowKit

theorem getD_some {α : Type} {xs : List α} {i : Nat} (d : α) (h : i < xs.length) : xs[i]? = some (xs.getD i d) := by simp [h]

/-- Where there is an element there is an address. -/
def AddrAt (v : Value) (len : Nat) : Prop := 0 < len → ∃ a cap, v = .slice (some a) len cap

theorem SlR.addr {α : Type} {El : Mu → List Value → α → Prop} {k : Nat} {m : Mu} {v : Value} {xs : List α} (h : SlR El k m v xs) : AddrAt v xs.length := fun hl => by
  obtain ⟨ao, cap, h1, _, _, _, h5⟩ := h
  obtain ⟨a, _, _, _, _, rfl, _⟩ := h5 0 xs[0] (List.getElem?_eq_getElem hl)
  exact ⟨a, cap, h1⟩
theorem OwnE.addr {α : Type} {E : α → List Value} {T k : Nat} {v : Value} {xs : List α} {L : List Ent} (h : OwnE T k E v xs L) : AddrAt v xs.length := fun hl => by
  rcases h with ⟨_, _, rfl, _⟩ | ⟨b, cap, _, h1, _⟩
  · simp at hl
  · exact ⟨_, cap, h1⟩

theorem OwnE.nil {α : Type} {E : α → List Value} {T k : Nat} (ao : Option Addr) : OwnE T k E (.slice ao 0 0) [] [] := .inl ⟨ao, rfl, rfl, rfl⟩
theorem OwnE.lit {α : Type} {E : α → List Value} {T k : Nat} (hE : ∀ x, (E x).length = k) (b : Nat) (xs : List α) (hm : xs.length ≤ maxLen) : OwnE T k E (.slice (some ⟨b, 0, none⟩) xs.length xs.length) xs [⟨b, T, xs.flatMap E⟩] :=
  .inr ⟨b, xs.length, [], rfl, by simp, by rw [List.append_nil]; exact fm_len hE xs, Nat.le_refl _, hm⟩
theorem OwnE.shape {α : Type} {E : α → List Value} {T k : Nat} {v : Value} {xs : List α} {L : List Ent} (h : OwnE T k E v xs L) : ∃ ao cap, v = .slice ao xs.length cap := by
  rcases h with ⟨ao, rfl, rfl, _⟩ | ⟨b, cap, _, h1, _⟩
  · exact ⟨ao, 0, rfl⟩
  · exact ⟨_, cap, h1⟩

theorem SlR.qlen {α : Type} {El : Mu → List Value → α → Prop} {k : Nat} {m : Mu} {a : Option Addr} {q c : Nat} {xs : List α} (h : SlR El k m (.slice a q c) xs) : q = xs.length := by
  obtain ⟨ao, cap, h1, _⟩ := h
  simp only [Value.slice.injEq] at h1
  exact h1.2.1
theorem OwnE.qlen {α : Type} {E : α → List Value} {T k : Nat} {a : Option Addr} {q c : Nat} {xs : List α} {L : List Ent} (h : OwnE T k E (.slice a q c) xs L) : q = xs.length := by
  rcases h with ⟨_, h1, rfl, _⟩ | ⟨_, _, _, h1, _⟩
  · simp only [Value.slice.injEq] at h1
    exact h1.2.1
  · simp only [Value.slice.injEq] at h1
    exact h1.2.1
theorem SlR_nil {α : Type} {El : Mu → List Value → α → Prop} {k : Nat} {m : Mu} : SlR El k m (.slice none 0 0) ([] : List α) :=
  ⟨none, 0, rfl, Nat.le_refl _, Nat.zero_le _, fun _ => rfl, fun i x hx => by simp at hx⟩

/-- What the call owns, read where its cells are seen. -/
theorem OwnE.reads {α : Type} {E : α → List Value} {T k : Nat} (hE : ∀ x, (E x).length = k) {v : Value} {xs : List α} {L : List Ent} (h : OwnE T k E v xs L) {m : Mu} (hm : ∀ x ∈ L, m x.b = some x.obj) : ∃ v', SlR (FE E) k m v' xs ∧ (v' = v ∨ xs = []) := by
  rcases h with ⟨ao, rfl, rfl, _⟩ | ⟨b, cap, rest, rfl, rfl, h3, h4, h5⟩
  · exact ⟨_, SlR_nil, .inr rfl⟩
  · refine ⟨_, ⟨_, cap, rfl, h4, h5, (fun h => by cases h), fun i x hx => ?_⟩, .inl rfl⟩
    refine ⟨_, _, _, _, E x, rfl, rfl, hm _ (List.mem_singleton.2 rfl), hE x, fun j u hu => ?_, rfl⟩
    have hj : j < k := by rw [← hE x]; exact (List.getElem?_eq_some_iff.1 hu).1
    have h6 := fm_get hE xs i x j hx hj
    have hlt : i * k + j < (xs.flatMap E).length := by
      rw [hu] at h6
      exact (List.getElem?_eq_some_iff.1 h6).1
    simp only [Nat.zero_add, List.getElem?_toArray]
    rw [List.getElem?_append_left hlt, h6]
    exact hu

/-- For a slice whose address matters to nobody where it is empty. -/
theorem SlR_empty {α : Type} {El : Mu → List Value → α → Prop} {k : Nat} {m : Mu} (a : Addr) (cap : Nat) (hc : cap ≤ maxLen) : SlR El k m (.slice (some a) 0 cap) ([] : List α) :=
  ⟨some a, cap, rfl, Nat.zero_le _, hc, (fun h => by cases h), fun i x hx => by simp at hx⟩

theorem OwnE.rd {α : Type} {E : α → List Value} {T k : Nat} (hE : ∀ x, (E x).length = k) {v : Value} {xs : List α} {L : List Ent} (h : OwnE T k E v xs L) {m : Mu} (hm : ∀ x ∈ L, m x.b = some x.obj) : SlR (FE E) k m v xs := by
  obtain ⟨v', h1, h2⟩ := h.reads hE hm
  rcases h2 with rfl | rfl
  · exact h1
  · rcases h with ⟨ao, rfl, _, _⟩ | ⟨b, cap, rest, rfl, _, _, _, h5⟩
    · cases ao with
      | none => exact SlR_nil
      | some a => exact SlR_empty a 0 (Nat.zero_le _)
    · exact SlR_empty _ cap h5

section
variable {P : Program} {n : Nat} {R : Act → World → Prop} {ops : Array Oper} {md : Option (World → Prop)} {l : List Oper} {tl : Act → World → Prop} {kk : List KI} {e : Env} {C : World → Prop}
variable {w0 : World} {m0 m : Mu} {Ls : List (List Ent)} {tb : Tab} {o : Oper} {α : Type} {k : Nat} {E : α → List Value}

theorem run_index (htb : TabOk P tb) {T el : TypeId} {ti te : TI} (hT : tget tb T = some ti) (hds : ti.desc = .slice el) (hel : tget tb el = some te) {a : Addr} {len cap : Nat} {kd : IntKind} {z : Int} (hz : 0 ≤ z ∧ z < (len : Int)) (w : World) :
    (Instr.indexAt T (.slice (some a) len cap) (.int kd z)).run P w = .ok (.pointer (some (a.add (z.toNat * te.size)))) w := by
  have hu := (htb _ _ hT).run_und w
  rw [hds] at hu
  have hs := (htb _ _ hel).run_size w
  unfold Instr.indexAt
  simp [asIntOf, hu, hs, hz]

theorem WO_index (htb : TabOk P tb) {T el : TypeId} {ti te : TI} {x ix : Operand} {v : Value} {len : Nat} {kd : IntKind} {z : Int} (hg : gd ops e o = some true) (hd : dstOk n o.dst = true) (hop : o.op = .indexAddr T x ix)
    (hx : ev e x = some v) (hix : ev e ix = some (.int kd z)) (hT : tget tb T = some ti) (hds : ti.desc = .slice el) (hel : tget tb el = some te) (hA : AddrAt v len) (hz : 0 ≤ z ∧ z < (len : Int))
    (h : WO P n R ops md l tl kk (setE e o.dst (.pointer (some (eAddr v te.size z.toNat)))) C) : WO P n R ops md (o :: l) tl kk e C :=
  WO_quiet _ hg (by rw [hop]; rfl) hd (fun a ha w _ => by
    obtain ⟨ad, cap, rfl⟩ := hA (by omega)
    unfold execOp
    simp only [hop, ha.ev hx, ha.ev hix, Sem.run_bind, run_index htb hT hds hel hz w, Result.andThen_ok, Sem.run_pure]
    rfl) h

/-- A load of an element of a slice that stands for good. -/
theorem WO_loadE (htb : TabOk P tb) {T : TypeId} {x : Operand} {v u : Value} {xs : List α} {i : Nat} {y : α} {m' : Mu} (hg : gd ops e o = some true) (hd : dstOk n o.dst = true) (hop : o.op = .load T x)
    (hx : ev e x = some (.pointer (some (eAddr v k i)))) (hF : ∀ w, (md.getD C) w → Sat m' w) (hs : SlR (FE E) k m' v xs) (hy : xs[i]? = some y) (hv : bload tb T (E y) 0 = some u)
    (h : WO P n R ops md l tl kk (setE e o.dst u) C) : WO P n R ops md (o :: l) tl kk e C :=
  WO_loadG hg hd hop hx (fun w hw => by
    obtain ⟨a, cap, cs, _, _, _, h4, h5⟩ := hs.at_ hy (hF w hw)
    subst h4
    exact run_load_cells htb hv h5) h

/-- Any element. -/
theorem WO_loadX (htb : TabOk P tb) {T : TypeId} {x : Operand} {v : Value} {El : Mu → List Value → α → Prop} {xs : List α} {i : Nat} {y : α} {m' : Mu} (hg : gd ops e o = some true) (hd : dstOk n o.dst = true) (hop : o.op = .load T x)
    (hx : ev e x = some (.pointer (some (eAddr v k i)))) (hF : ∀ w, (md.getD C) w → Sat m' w) (hs : SlR El k m' v xs) (hy : xs[i]? = some y)
    (h : ∀ cs, El m' cs y → ∃ u, bload tb T cs 0 = some u ∧ WO P n R ops md l tl kk (setE e o.dst u) C) : WO P n R ops md (o :: l) tl kk e C := by
  obtain ⟨ao, cap, h1, h2, h3, h4, h5⟩ := hs
  obtain ⟨a, cells, T', fr, cs, rfl, q2, q3, q4, q5, q6⟩ := h5 i y hy
  obtain ⟨u, hu, hw⟩ := h cs q6
  refine WO_loadG hg hd hop hx (fun w hw' => run_load_cells htb hu (fun j v' hj => ?_)) hw
  have he : (eAddr v k i).add j = ⟨a.block, a.off + i * k + j, none⟩ := by
    rw [h1]
    show (a.add (i * k)).add j = _
    rw [Addr.add_none q2, Addr.add_none rfl]
  rw [he]
  have hb := hF w hw' _ _ q3
  simp only [World.cell?, hb]
  exact q5 j v' hj

/-- An element that is a slice. -/
theorem WO_loadR (htb : TabOk P tb) {T el : TypeId} {ti : TI} {x : Operand} {v : Value} {El : Mu → List Value → α → Prop} {k' : Nat} {xss : List (List α)} {i : Nat} {ys : List α} {m' : Mu} (hg : gd ops e o = some true) (hd : dstOk n o.dst = true) (hop : o.op = .load T x)
    (hx : ev e x = some (.pointer (some (eAddr v 1 i)))) (hF : ∀ w, (md.getD C) w → Sat m' w) (hs : SlR (RowE El k') 1 m' v xss) (hy : xss[i]? = some ys) (hT : tget tb T = some ti) (hds : ti.desc = .slice el)
    (h : ∀ ao cap, SlR El k' m' (.slice ao ys.length cap) ys → WO P n R ops md l tl kk (setE e o.dst (.slice ao ys.length cap)) C) : WO P n R ops md (o :: l) tl kk e C :=
  WO_loadX htb hg hd hop hx hF hs hy (fun cs hcs => by
    obtain ⟨u, rfl, hu⟩ := hcs
    obtain ⟨ao, cap, rfl, _⟩ := hu.len
    refine ⟨_, ?_, h ao cap hu⟩
    unfold bload
    rw [hT]
    simp only [hds]
    rfl)

theorem seg_cells {w : World} {i b : Nat} {T : TypeId} {cs : List Value} (h : St w0 m0 m Ls w) (hi : Ls[i]? = some [⟨b, T, cs⟩]) {j : Nat} {u : Value} (hj : cs[j]? = some u) : w.cell? ⟨b, j, none⟩ = some u := by
  rw [cell_of_row w b j cs.toArray T (0, 0) ((h.seg hi).at_ _ (List.mem_singleton.2 rfl)).1]
  simpa using hj

/-- A load of an element of a slice that the call owns. -/
theorem WO_loadO (htb : TabOk P tb) (hE : ∀ x, (E x).length = k) (si : Nat) {T T' : TypeId} {x : Operand} {v u : Value} {xs : List α} {L : List Ent} {i : Nat} {y : α} {w0' : World} {m0' m' : Mu} {Ls' : List (List Ent)} (hg : gd ops e o = some true) (hd : dstOk n o.dst = true) (hop : o.op = .load T x)
    (hx : ev e x = some (.pointer (some (eAddr v k i)))) (hF : ∀ w, (md.getD C) w → St w0' m0' m' Ls' w) (ho : OwnE T' k E v xs L) (hL : Ls'[si]? = some L) (hy : xs[i]? = some y) (hv : bload tb T (E y) 0 = some u)
    (h : WO P n R ops md l tl kk (setE e o.dst u) C) : WO P n R ops md (o :: l) tl kk e C :=
  WO_loadG hg hd hop hx (fun w hw => by
    have hst := hF w hw
    rcases ho with ⟨ao, rfl, rfl, _⟩ | ⟨b, cap, rest, rfl, rfl, h3, h4, h5⟩
    · simp at hy
    · refine run_load_cells htb hv (fun j q hq => ?_)
      have hj : j < k := by rw [← hE y]; exact (List.getElem?_eq_some_iff.1 hq).1
      have h6 := fm_get hE xs i y j hy hj
      rw [hq] at h6
      show w.cell? (((⟨b, 0, none⟩ : Addr).add (i * k)).add j) = some q
      rw [Addr.add_none (a := ⟨b, 0, none⟩) rfl, Addr.add_none rfl]
      refine seg_cells hst hL ?_
      rw [Nat.zero_add, List.getElem?_append_left (List.getElem?_eq_some_iff.1 h6).1]
      exact h6) h

/-- A store into an element of a slice that the call owns. -/
theorem WO_storeO (htb : TabOk P tb) (hE : ∀ x, (E x).length = k) (si : Nat) {T T' : TypeId} {te : TI} {p x : Operand} {v u : Value} {xs : List α} {L : List Ent} {i : Nat} (y : α) (hg : gd ops e o = some true) (hd : dstOk n o.dst = true) (hop : o.op = .store T p x)
    (hp : ev e p = some (.pointer (some (eAddr v k i)))) (hx : ev e x = some u) (ho : OwnE T' k E v xs L) (hL : Ls[si]? = some L) (hi : i < xs.length) (hT : tget tb T = some te) (hk : te.size = k) (hu : u.cells.toList = E y) (h1 : (E y).all Value.oneCell' = true)
    (h : ∀ L', OwnE T' k E v (xs.set i y) L' → WO P n R ops none l tl kk (setE e o.dst undef) (St w0 m0 m (Ls.set si L'))) : WO P n R ops none (o :: l) tl kk e (St w0 m0 m Ls) := by
  rcases ho with ⟨ao, rfl, rfl, _⟩ | ⟨b, cap, rest, rfl, rfl, h3, h4, h5⟩
  · simp at hi
  · have hlen : (xs.flatMap E ++ rest).length = cap * k := h3
    have hbs : bstore tb T (xs.flatMap E ++ rest) (i * k) u = some ((xs.set i y).flatMap E ++ rest) := by
      unfold bstore
      rw [hT]
      have c1 : Nat.beq u.cells.toList.length te.size = true := by rw [hu, hE, hk]; exact Nat.beq_refl k
      have c2 : Nat.ble (i * k + te.size) (xs.flatMap E ++ rest).length = true := by
        rw [Nat.ble_eq, hlen, hk]
        have : (i + 1) * k ≤ cap * k := Nat.mul_le_mul_right k (by omega)
        rw [Nat.add_mul] at this
        omega
      have c3 : u.cells.toList.all Value.oneCell' = true := by rw [hu]; exact h1
      simp only [c1, c2, c3, Bool.and_self, cond_true]
      rw [hu, hk, fm_put hE xs i y rest hi]
    refine WO_write (fun _ : Unit => undef) (fun _ => St w0 m0 m (Ls.set si [⟨b, T', (xs.set i y).flatMap E ++ rest⟩])) hg hd (fun a w ha hw => ⟨(), w.setRow b ((xs.set i y).flatMap E ++ rest).toArray, .inr ⟨?_, rfl⟩, hw.setRow hL⟩) (fun _ => h _ (.inr ⟨b, cap, rest, by rw [List.length_set], rfl, ?_, by rw [List.length_set]; exact h4, h5⟩))
    · refine exec_store hop (ha.ev hp) (ha.ev hx) ?_
      have := run_store_row htb hbs ((hw.seg hL).at_ _ (List.mem_singleton.2 rfl)).1
      have he : eAddr (.slice (some ⟨b, 0, none⟩) xs.length cap) k i = ⟨b, i * k, none⟩ := by
        show (⟨b, 0, none⟩ : Addr).add (i * k) = _
        rw [Addr.add_none rfl, Nat.zero_add]
      rw [he]
      exact this
    · rw [List.length_append, fm_len hE, List.length_set, ← fm_len hE xs, ← List.length_append]
      exact h3

/-! ### Made slices -/

theorem made_cells (hE : ∀ x, (E x).length = k) (hk : 0 < k) {z : Value} {y : α} (hz : z.cells.toList = E y) (c : Nat) : (madeCells z.cells (c * k)).toList = (List.replicate c y).flatMap E := by
  have hzs : z.cells.size = k := by rw [← hE y, ← hz]; simp
  apply List.ext_getElem?
  intro q
  have hl2 : ((List.replicate c y).flatMap E).length = c * k := by rw [fm_len hE, List.length_replicate]
  by_cases hq : q < c * k
  · have hi : q / k < c := Nat.div_lt_of_lt_mul (by rw [Nat.mul_comm]; exact hq)
    have hj : q % k < k := Nat.mod_lt _ hk
    have h1 := fm_get hE (List.replicate c y) (q / k) y (q % k) (by simp [hi]) hj
    have hqe : q / k * k + q % k = q := by rw [Nat.mul_comm]; exact Nat.div_add_mod q k
    rw [hqe] at h1
    rw [h1, ← hz]
    simp [madeCells, hq, hzs, hj]
  · rw [List.getElem?_eq_none (by simp [madeCells]; omega), List.getElem?_eq_none (by rw [hl2]; omega)]

theorem WO_make (htb : TabOk P tb) (hE : ∀ x, (E x).length = k) (hk0 : 0 < k) {T el : TypeId} {ti te : TI} {ln cp : Operand} {kl kc : IntKind} {len cap : Int} {z : Value} (y : α) (hg : gd ops e o = some true) (hd : dstOk n o.dst = true) (hcl : MdCl md) (hop : o.op = .makeSlice T ln cp)
    (hln : ev e ln = some (.int kl len)) (hcp : ev e cp = some (.int kc cap)) (hT : tget tb T = some ti) (hds : ti.desc = .slice el) (hel : tget tb el = some te) (hk : te.size = k) (hz : te.zero = some z) (hzy : z.cells.toList = E y)
    (h0 : 0 ≤ len ∧ len ≤ cap ∧ (te.bytes : Int) * cap ≤ 281474976710656 ∧ cap ≤ 9223372036854775807)
    (h : ∀ b cap' L, OwnE el k E (.slice (some ⟨b, 0, none⟩) (List.replicate len.toNat y).length cap') (List.replicate len.toNat y) L → WO P n R ops md l tl kk (setE e o.dst (.slice (some ⟨b, 0, none⟩) (List.replicate len.toNat y).length cap')) (St w0 m0 m (Ls ++ [L]))) :
    WO P n R ops md (o :: l) tl kk e (St w0 m0 m Ls) := by
  obtain ⟨hl0, hlc, hby, h63⟩ := h0
  have hsplit : (List.replicate cap.toNat y).flatMap E = (List.replicate len.toNat y).flatMap E ++ (List.replicate (cap.toNat - len.toNat) y).flatMap E := by
    rw [← List.flatMap_append, List.replicate_append_replicate]
    congr 2
    omega
  refine WO_act (fun b : Nat => .slice (some ⟨b, 0, none⟩) (List.replicate len.toNat y).length cap.toNat) (fun b => St w0 m0 m (Ls ++ [[⟨b, el, (List.replicate len.toNat y).flatMap E ++ (List.replicate (cap.toNat - len.toNat) y).flatMap E⟩]]))
    hg (by rw [hop]; rfl) hd hcl (fun a w ha hw => ?_) (fun b => h b cap.toNat _ (.inr ⟨b, cap.toNat, _, rfl, rfl, ?_, ?_, ?_⟩))
  · have hokT := htb _ _ hT
    obtain ⟨f, hf, f1, f2, f3⟩ := (htb _ _ hel).typeInfo
    have hr := run_make (P := P) w T el f z (by rw [hokT.und, hds]) hf (by rw [f3, hz]) kl kc len cap hl0 hlc (by rw [f2]; exact hby) h63
    rw [f1, hk] at hr
    have hmc := made_cells hE hk0 hzy cap.toNat
    refine ⟨w.heap.size, _, ?_, Ext.alloc w _, hw.alloc el _⟩
    rw [← hsplit, ← hmc, Array.toArray_toList, List.length_replicate]
    unfold execOp
    simp only [hop, ha.ev hln, ha.ev hcp, Sem.run_bind, hr, Result.andThen_ok, Sem.run_pure]
  · rw [← hsplit, fm_len hE, List.length_replicate]
  · rw [List.length_replicate]; omega
  · simp only [maxLen]; omega

/-! ### Literals -/

theorem fill_number (sz : Nat) : ∀ (vs : List Value) (i : Nat) (cur : Array Value), (∀ v ∈ vs, v.cells.size = sz) → (i + vs.length) * sz = cur.size →
    ∃ cs, Instr.fill (fun j => some (j * sz, sz)) cur (number i vs) = some cs ∧ cs.toList = cur.toList.take (i * sz) ++ vs.flatMap (fun v => v.cells.toList)
  | [], i, cur, _, h => ⟨cur, rfl, by
      rw [List.flatMap_nil, List.append_nil, List.take_of_length_le]
      simp at h ⊢; omega⟩
  | v :: vs, i, cur, hv, h => by
    have hvs : v.cells.size = sz := hv v (by simp)
    have hle : i * sz + sz ≤ cur.size := by
      rw [← h]
      have : (i + 1) * sz ≤ (i + (v :: vs).length) * sz := Nat.mul_le_mul_right sz (by simp)
      rw [Nat.add_mul, Nat.one_mul] at this
      exact this
    have hf : ((v.cells.zipIdx).foldl (fun cs (x : Value × Nat) => cs.setIfInBounds (i * sz + x.2) x.1) cur).toList = cur.toList.take (i * sz) ++ v.cells.toList ++ cur.toList.drop (i * sz + sz) := by
      have := fold_set v.cells.toList (i * sz) cur 0 (by simp [hvs]; exact hle)
      have e2 : v.cells.zipIdx = (v.cells.toList.zipIdx 0).toArray := by
        apply Array.ext'; simp
      rw [e2, List.foldl_toArray]
      simpa [hvs] using this
    have hsz2 : ((v.cells.zipIdx).foldl (fun cs (x : Value × Nat) => cs.setIfInBounds (i * sz + x.2) x.1) cur).size = cur.size := by
      rw [← Array.length_toList, hf]
      simp only [List.length_append, List.length_take, List.length_drop, Array.length_toList, hvs]
      omega
    obtain ⟨cs, h1, h2⟩ := fill_number sz vs (i + 1) ((v.cells.zipIdx).foldl (fun cs (x : Value × Nat) => cs.setIfInBounds (i * sz + x.2) x.1) cur) (fun u hu => hv u (by simp [hu])) (by rw [hsz2, ← h]; congr 1; simp; omega)
    refine ⟨cs, ?_, ?_⟩
    · simp only [number, Instr.fill]
      have hc : ¬ (v.cells.size ≠ sz ∨ i * sz + v.cells.size > cur.size) := by
        rw [hvs]; intro hh; rcases hh with hh | hh
        · exact hh rfl
        · omega
      have hcb : (decide (v.cells.size ≠ sz) || decide (i * sz + v.cells.size > cur.size)) = false := by
        simp only [Bool.or_eq_false_iff, decide_eq_false_iff_not]
        exact ⟨fun hh => hc (.inl hh), fun hh => hc (.inr hh)⟩
      rw [if_neg (by simpa using hc)]
      exact h1
    · rw [h2, hf]
      have e1 : (i + 1) * sz = i * sz + sz := by rw [Nat.add_mul, Nat.one_mul]
      rw [e1, List.take_append_of_le_length (by simp [hvs]; omega)]
      rw [List.take_of_length_le (by simp [hvs]; omega)]
      simp

theorem WO_bslice (htb : TabOk P tb) (hE : ∀ x, (E x).length = k) (hk0 : 0 < k) {T el : TypeId} {ti te : TI} {len : Nat} {ps : Array (Nat × Operand)} (vs : List Value) (xs : List α) {z : Value} (hg : gd ops e o = some true) (hd : dstOk n o.dst = true) (hcl : MdCl md) (hop : o.op = .buildSlice T len ps)
    (hps : evPairs e ps.toList = some (number 0 vs)) (hT : tget tb T = some ti) (hds : ti.desc = .slice el) (hel : tget tb el = some te) (hk : te.size = k) (hz : te.zero = some z) (hlen : Nat.beq vs.length len = true) (hlx : Nat.beq xs.length len = true) (hsm : Nat.ble (len * k) 16777216 = true)
    (hvs : vs.all (fun v => Nat.beq v.cells.toList.length k) = true) (hcells : vs.flatMap (fun v => v.cells.toList) = xs.flatMap E)
    (h : ∀ b, OwnE el k E (.slice (some ⟨b, 0, none⟩) len len) xs [⟨b, el, xs.flatMap E⟩] → WO P n R ops md l tl kk (setE e o.dst (.slice (some ⟨b, 0, none⟩) len len)) (St w0 m0 m (Ls ++ [[⟨b, el, xs.flatMap E⟩]]))) :
    WO P n R ops md (o :: l) tl kk e (St w0 m0 m Ls) := by
  have hlen' : vs.length = len := Nat.eq_of_beq_eq_true hlen
  have hlx' : xs.length = len := Nat.eq_of_beq_eq_true hlx
  have hsm' := Nat.le_of_ble_eq_true hsm
  refine WO_act (fun b : Nat => .slice (some ⟨b, 0, none⟩) len len) (fun b => St w0 m0 m (Ls ++ [[⟨b, el, xs.flatMap E⟩]])) hg (by rw [hop]; rfl) hd hcl (fun a w ha hw => ?_) (fun b => h b ?_)
  · have hu := (htb _ _ hT).run_und w
    rw [hds] at hu
    have hs := (htb _ _ hel).run_size w
    have hzr := (htb _ _ hel).run_zero hz w
    rw [hk] at hs
    have hpe : (ps.map fun (i, x) => (i, a.eval x)).toList = number 0 vs := by rw [← evPairs_ok ha hps]; cases ps; simp
    refine ⟨w.heap.size, w.alloc (.cells (xs.flatMap E).toArray el), ?_, Ext.alloc w _, hw.alloc el _⟩
    have hall : ∀ v ∈ vs, v.cells.size = k := fun v hv => by
      have := Nat.eq_of_beq_eq_true (List.all_eq_true.1 hvs v hv)
      simpa using this
    have key : ∀ cur : Array Value, cur.size = len * k → Instr.fill (fun j => some (j * k, k)) cur (number 0 vs) = some (xs.flatMap E).toArray := fun cur hc => by
      obtain ⟨cs, h1, h2⟩ := fill_number k vs 0 cur hall (by rw [Nat.zero_add, hlen', hc])
      rw [h1]
      congr 1
      apply Array.ext'
      rw [h2, hcells]
      simp
    unfold execOp
    simp only [hop, Instr.buildSlice, Sem.run_bind, hu, Result.andThen_ok, hs]
    rw [if_neg (by omega)]
    have key2 : ∀ zero : Array Value, Instr.fill (fun i => some (i * k, k)) (Array.map (fun x => zero[x % zero.size]!) (Array.range (len * k))) (number 0 vs) = some (xs.flatMap E).toArray := fun zero => key _ (by simp)
    by_cases hz0 : len * k = 0
    · rw [if_pos hz0]
      simp only [Sem.run_bind, Sem.run_pure, Result.andThen_ok, hpe, key2]
      rfl
    · rw [if_neg hz0]
      simp only [Sem.run_bind, hzr, Sem.run_pure, Result.andThen_ok, hpe, key2]
      rfl
  · have hb : len ≤ maxLen := by
      have := Nat.le_trans (Nat.le_mul_of_pos_right len hk0) hsm'
      simp only [maxLen]; omega
    have := OwnE.lit (T := el) hE b xs (by rw [hlx']; exact hb)
    rw [hlx'] at this
    exact this

end
end Go.E
