/-
  THE ENGINE, 9: tables: an owned slice of slices whose rows are owned too.
-/
import Derived.Test.YtbolefkhmfbnlaaEng8
namespace Go.E
open Go.RowKit

def All3 {α β γ : Type} (R : α → β → γ → Prop) : List α → List β → List γ → Prop
  | [], [], [] => True
  | a :: as, b :: bs, c :: cs => R a b c ∧ All3 R as bs cs
  | _, _, _ => False

section
variable {α β γ : Type} {R : α → β → γ → Prop}
theorem All3.len : ∀ {as : List α} {bs : List β} {cs : List γ}, All3 R as bs cs → as.length = bs.length ∧ cs.length = bs.length
  | [], [], [], _ => ⟨rfl, rfl⟩
  | _ :: _, _ :: _, _ :: _, h => by have := All3.len h.2; simp [this.1, this.2]
  | [], [], _ :: _, h => h.elim
  | [], _ :: _, _, h => h.elim
  | _ :: _, [], _, h => h.elim
  | _ :: _, _ :: _, [], h => h.elim
theorem All3.get : ∀ {as : List α} {bs : List β} {cs : List γ}, All3 R as bs cs → ∀ {i : Nat} {b : β}, bs[i]? = some b → ∃ a c, as[i]? = some a ∧ cs[i]? = some c ∧ R a b c
  | [], [], [], _, i, b, hb => by simp at hb
  | a :: as, b' :: bs, c :: cs, h, 0, b, hb => by
    simp only [List.getElem?_cons_zero, Option.some.injEq] at hb
    subst hb
    exact ⟨a, c, rfl, rfl, h.1⟩
  | a :: as, b' :: bs, c :: cs, h, i + 1, b, hb => by
    simp only [List.getElem?_cons_succ] at hb ⊢
    exact All3.get h.2 hb
  | [], [], _ :: _, h, _, _, _ => h.elim
  | [], _ :: _, _, h, _, _, _ => h.elim
  | _ :: _, [], _, h, _, _, _ => h.elim
  | _ :: _, _ :: _, [], h, _, _, _ => h.elim
theorem All3.put : ∀ {as : List α} {bs : List β} {cs : List γ} (i : Nat) {a : α} {b : β} {c : γ}, All3 R as bs cs → R a b c → All3 R (as.set i a) (bs.set i b) (cs.set i c)
  | [], [], [], _, _, _, _, h, _ => h
  | _ :: _, _ :: _, _ :: _, 0, _, _, _, h, k => ⟨k, h.2⟩
  | _ :: _, _ :: _, _ :: _, i + 1, _, _, _, h, k => ⟨h.1, All3.put i h.2 k⟩
  | [], [], _ :: _, _, _, _, _, h, _ => h.elim
  | [], _ :: _, _, _, _, _, _, h, _ => h.elim
  | _ :: _, [], _, _, _, _, _, h, _ => h.elim
  | _ :: _, _ :: _, [], _, _, _, _, h, _ => h.elim
theorem All3.rep {a : α} {b : β} {c : γ} (h : R a b c) : ∀ n : Nat, All3 R (List.replicate n a) (List.replicate n b) (List.replicate n c)
  | 0 => trivial
  | n + 1 => ⟨h, All3.rep h n⟩
theorem All3.two {S : α → β → Prop} : ∀ {as : List α} {bs : List β} {cs : List γ}, All3 R as bs cs → (∀ a b c, c ∈ cs → R a b c → S a b) → All2 S as bs
  | [], [], [], _, _ => trivial
  | _ :: _, _ :: _, _ :: _, h, k => ⟨k _ _ _ (by simp) h.1, All3.two h.2 (fun a b c hc hr => k a b c (by simp [hc]) hr)⟩
  | [], [], _ :: _, h, _ => h.elim
  | [], _ :: _, _, h, _ => h.elim
  | _ :: _, [], _, h, _ => h.elim
  | _ :: _, _ :: _, [], h, _ => h.elim
end

def OwnT {α : Type} (T0 T1 k : Nat) (E : α → List Value) (v : Value) (vs : List Value) (xss : List (List α)) (L : List Ent) : Prop :=
  ∃ (Lo : List Ent) (Lrs : List (List Ent)), L = Lo ++ Lrs.flatten ∧ OwnE T0 1 V1 v vs Lo ∧ All3 (fun u xs Lr => OwnE T1 k E u xs Lr) vs xss Lrs

section
variable {α : Type} {T0 T1 k : Nat} {E : α → List Value} {v : Value} {vs : List Value} {xss : List (List α)} {L : List Ent}
theorem OwnT.len (h : OwnT T0 T1 k E v vs xss L) : vs.length = xss.length := let ⟨_, _, _, _, h3⟩ := h; h3.len.1
theorem OwnT.qlen {a : Option Addr} {q c : Nat} (h : OwnT T0 T1 k E (.slice a q c) vs xss L) : q = xss.length := by
  have := h.len
  obtain ⟨_, _, _, h2, _⟩ := h
  rw [h2.qlen, this]
theorem OwnT.addr (h : OwnT T0 T1 k E v vs xss L) : AddrAt v xss.length := by
  have := h.len
  obtain ⟨_, _, _, h2, _⟩ := h
  have h3 := h2.addr
  rw [this] at h3
  exact h3
theorem OwnT.nils {n : Nat} (h : OwnE T0 1 V1 v (List.replicate n (.slice none 0 0)) L) : OwnT T0 T1 k E v (List.replicate n (.slice none 0 0)) (List.replicate n []) L :=
  ⟨L, List.replicate n [], by simp, h, All3.rep (OwnE.nil none) n⟩
theorem OwnT.rd (hE : ∀ x, (E x).length = k) (h : OwnT T0 T1 k E v vs xss L) {m' : Mu} (hm : ∀ x ∈ L, m' x.b = some x.obj) : SlR (RowE (FE E) k) 1 m' v xss := by
  obtain ⟨Lo, Lrs, rfl, h2, h3⟩ := h
  have h4 : SlR (FE V1) 1 m' v vs := OwnE.rd (E := V1) (k := 1) (fun _ => rfl) h2 (fun x hx => hm x (List.mem_append_left _ hx))
  refine h4.conv (h3.two fun a b c hc hr => ⟨a, rfl, hr.rd hE (fun x hx => hm x (List.mem_append_right _ (List.mem_flatten.2 ⟨c, hc, hx⟩)))⟩)
end

theorem split_at {β : Type} {l : List β} {i : Nat} {x : β} (h : l[i]? = some x) : l = l.take i ++ x :: l.drop (i + 1) ∧ ∀ y, l.set i y = l.take i ++ y :: l.drop (i + 1) := by
  obtain ⟨hlt, he⟩ := List.getElem?_eq_some_iff.1 h
  refine ⟨by rw [← he]; simp, fun y => ?_⟩
  rw [List.set_eq_take_append_cons_drop, if_pos hlt]

theorem nd_mid {X Y : List Ent} {x : Ent} (h : ((X ++ x :: Y).map (·.b)).Nodup) : ∀ y, y ∈ X ∨ y ∈ Y → y.b ≠ x.b := by
  intro y hy
  rw [List.map_append, List.map_cons, List.nodup_append] at h
  obtain ⟨_, h2, h3⟩ := h
  rw [List.nodup_cons] at h2
  rcases hy with hy | hy
  · exact h3 _ (List.mem_map_of_mem hy) _ (by simp)
  · intro he
    exact h2.1 (he ▸ List.mem_map_of_mem hy)

section
variable {w0 : World} {m0 m : Mu} {Ls : List (List Ent)}

theorem St.setEnt {w : World} {i b : Nat} {T' : TypeId} {cs cs' : List Value} {X Y : List Ent} (h : St w0 m0 m Ls w) (hi : Ls[i]? = some (X ++ ⟨b, T', cs⟩ :: Y)) :
    St w0 m0 m (Ls.set i (X ++ ⟨b, T', cs'⟩ :: Y)) (w.setRow b cs'.toArray) := by
  have hown := h.seg hi
  have hb := (hown.at_ ⟨b, T', cs⟩ (by simp)).1
  have hne := nd_mid hown.nd
  refine h.put hi rfl rfl rfl (by simp) (fun c _ hc => setRow_other w b c _ (fun he => hc ⟨b, T', cs⟩ (by simp) he.symm)) (fun x hx => ?_) (by have := hown.nd; simpa using this)
  rcases List.mem_append.1 hx with hx | hx
  · refine ⟨?_, .inl ⟨x, by simp [hx], rfl⟩⟩
    rw [setRow_other w b x.b _ (fun he => hne x (.inl hx) he)]
    exact (hown.at_ x (by simp [hx])).1
  · rcases List.mem_cons.1 hx with rfl | hx
    · exact ⟨setRow_heap w b cs.toArray _ T' _ hb, .inl ⟨⟨b, T', cs⟩, by simp, rfl⟩⟩
    · refine ⟨?_, .inl ⟨x, by simp [hx], rfl⟩⟩
      rw [setRow_other w b x.b _ (fun he => hne x (.inr hx) he)]
      exact (hown.at_ x (by simp [hx])).1

theorem OwnL.perm {B : Nat} {L L' : List Ent} {w : World} (h : OwnL m B L w) (hp : L.Perm L') : OwnL m B L' w :=
  ⟨fun x hx => h.at_ x (hp.mem_iff.2 hx), (hp.map _).nodup_iff.1 h.nd⟩

theorem St.perm {Ls' : List (List Ent)} {w : World} (h : St w0 m0 m Ls w) (hp : Ls.flatten.Perm Ls'.flatten) : St w0 m0 m Ls' w :=
  ⟨h.below, h.le, h.new, h.sat, h.own.perm hp⟩

/-- A segment's list is told otherwise. -/
theorem St.seg_as {w : World} {i : Nat} {L L1 L2 : List Ent} (h : St w0 m0 m Ls w) (hi : Ls[i]? = some L) (hp : L.Perm L1) (hs : L2.Sublist L1) : St w0 m0 m (Ls.set i L2) w := by
  obtain ⟨A, B, hAB, hset⟩ := seg_split hi
  have h1 : St w0 m0 m (A ++ L1 :: B) w := h.perm (by
    rw [hAB, List.flatten_append, List.flatten_cons, List.flatten_append, List.flatten_cons]
    exact List.Perm.append_left _ (List.Perm.append_right _ hp))
  rw [hset]
  refine h1.sub ?_
  rw [List.flatten_append, List.flatten_cons, List.flatten_append, List.flatten_cons]
  exact List.Sublist.append (List.Sublist.refl _) (List.Sublist.append hs (List.Sublist.refl _))

/-- Segment j is put behind segment i. -/
theorem St.merge {w : World} {i j : Nat} {L Lr : List Ent} (h : St w0 m0 m Ls w) (hij : i < j) (hi : Ls[i]? = some L) (hj : Ls[j]? = some Lr) : St w0 m0 m ((Ls.set i (L ++ Lr)).set j []) w := by
  obtain ⟨A, B, hAB, hset, hA⟩ : ∃ A B, Ls = A ++ L :: B ∧ (∀ L', Ls.set i L' = A ++ L' :: B) ∧ A.length = i :=
    ⟨Ls.take i, Ls.drop (i + 1), (split_at hi).1, (split_at hi).2, by have := (List.getElem?_eq_some_iff.1 hi).1; simp; omega⟩
  have hjB : B[j - i - 1]? = some Lr := by
    rw [hAB, List.getElem?_append_right (by omega), hA] at hj
    rw [show j - i = (j - i - 1) + 1 by omega, List.getElem?_cons_succ] at hj
    exact hj
  obtain ⟨B1, B2, hB, hBset⟩ := seg_split hjB
  have e1 : (Ls.set i (L ++ Lr)).set j [] = A ++ (L ++ Lr) :: (B1 ++ [] :: B2) := by
    rw [hset, List.set_append_right _ _ (by omega), hA, show j - i = (j - i - 1) + 1 by omega, List.set_cons_succ, hBset]
  rw [e1]
  refine h.perm ?_
  rw [hAB, hB]
  simp only [List.flatten_append, List.flatten_cons, List.nil_append, List.append_assoc]
  refine List.Perm.append_left _ (List.Perm.append_left _ ?_)
  rw [← List.append_assoc, ← List.append_assoc]
  exact List.Perm.append_right _ List.perm_append_comm
end

section
variable {P : Program} {n : Nat} {R : Act → World → Prop} {ops : Array Oper} {md : Option (World → Prop)} {l : List Oper} {tl : Act → World → Prop} {kk : List KI} {e : Env} {C : World → Prop}
variable {w0 : World} {m0 m : Mu} {Ls : List (List Ent)} {tb : Tab} {o : Oper} {α : Type} {k : Nat} {E : α → List Value}

theorem ent_cells {w : World} {i b : Nat} {T : TypeId} {cs : List Value} {L : List Ent} (h : St w0 m0 m Ls w) (hi : Ls[i]? = some L) (hx : ⟨b, T, cs⟩ ∈ L) {j : Nat} {u : Value} (hj : cs[j]? = some u) : w.cell? ⟨b, j, none⟩ = some u := by
  rw [cell_of_row w b j cs.toArray T (0, 0) ((h.seg hi).at_ _ hx).1]
  simpa using hj

/-- A load of an element of what is owned, in a greater segment. -/
theorem load_in (htb : TabOk P tb) (hE : ∀ x, (E x).length = k) {T T' : TypeId} {v u : Value} {xs : List α} {L Lx : List Ent} {si i : Nat} {y : α} {w : World} (hst : St w0 m0 m Ls w) (ho : OwnE T' k E v xs Lx) (hL : Ls[si]? = some L) (hsub : ∀ x ∈ Lx, x ∈ L) (hy : xs[i]? = some y) (hv : bload tb T (E y) 0 = some u) :
    (loadVar T (eAddr v k i)).run P w = .ok u w := by
  rcases ho with ⟨ao, rfl, rfl, _⟩ | ⟨b, cap, rest, rfl, rfl, h3, h4, h5⟩
  · simp at hy
  · refine run_load_cells htb hv (fun j q hq => ?_)
    have hj : j < k := by rw [← hE y]; exact (List.getElem?_eq_some_iff.1 hq).1
    have h6 := fm_get hE xs i y j hy hj
    rw [hq] at h6
    show w.cell? (((⟨b, 0, none⟩ : Addr).add (i * k)).add j) = some q
    rw [Addr.add_none (a := ⟨b, 0, none⟩) rfl, Addr.add_none rfl]
    refine ent_cells hst hL (hsub _ (List.mem_singleton.2 rfl)) ?_
    rw [Nat.zero_add, List.getElem?_append_left (List.getElem?_eq_some_iff.1 h6).1]
    exact h6

/-- A row of a table. -/
theorem WO_loadT (htb : TabOk P tb) (si : Nat) {T el : TypeId} {ti : TI} {T0 T1 : Nat} {x : Operand} {v : Value} {vs : List Value} {xss : List (List α)} {L : List Ent} {i : Nat} {ys : List α} {w0' : World} {m0' m' : Mu} {Ls' : List (List Ent)} (hg : gd ops e o = some true) (hd : dstOk n o.dst = true) (hop : o.op = .load T x)
    (hx : ev e x = some (.pointer (some (eAddr v 1 i)))) (hF : ∀ w, (md.getD C) w → St w0' m0' m' Ls' w) (ho : OwnT T0 T1 k E v vs xss L) (hL : Ls'[si]? = some L) (hy : xss[i]? = some ys) (hT : tget tb T = some ti) (hds : ti.desc = .slice el)
    (h : ∀ ao cap Lr, vs[i]? = some (.slice ao ys.length cap) → OwnE T1 k E (.slice ao ys.length cap) ys Lr → WO P n R ops md l tl kk (setE e o.dst (.slice ao ys.length cap)) C) : WO P n R ops md (o :: l) tl kk e C := by
  obtain ⟨Lo, Lrs, rfl, h2, h3⟩ := ho
  obtain ⟨u, Lr, hu, _, hr⟩ := h3.get hy
  obtain ⟨ao, cap, rfl⟩ := hr.shape
  refine WO_loadG hg hd hop hx (fun w hw => load_in (E := V1) (k := 1) htb (fun _ => rfl) (hF w hw) h2 hL (fun x hx => List.mem_append_left _ hx) hu ?_) (h ao cap Lr hu hr)
  unfold bload
  rw [hT]
  simp only [hds]
  rfl

/-- An element of a row of a table. -/
theorem WO_loadTE (htb : TabOk P tb) (hE : ∀ x, (E x).length = k) (si : Nat) {T : TypeId} {T0 T1 : Nat} {x : Operand} {v u rv : Value} {vs : List Value} {xss : List (List α)} {L : List Ent} {i j : Nat} {ys : List α} {y : α} {w0' : World} {m0' m' : Mu} {Ls' : List (List Ent)} (hg : gd ops e o = some true) (hd : dstOk n o.dst = true) (hop : o.op = .load T x)
    (hx : ev e x = some (.pointer (some (eAddr rv k j)))) (hF : ∀ w, (md.getD C) w → St w0' m0' m' Ls' w) (ho : OwnT T0 T1 k E v vs xss L) (hL : Ls'[si]? = some L) (hvs : vs[i]? = some rv) (hy : xss[i]? = some ys) (hj : ys[j]? = some y) (hv : bload tb T (E y) 0 = some u)
    (h : WO P n R ops md l tl kk (setE e o.dst u) C) : WO P n R ops md (o :: l) tl kk e C := by
  obtain ⟨Lo, Lrs, rfl, h2, h3⟩ := ho
  obtain ⟨u', Lr, hu, hLr, hr⟩ := h3.get hy
  rw [hvs] at hu
  obtain rfl := Option.some.inj hu
  exact WO_loadG hg hd hop hx (fun w hw => load_in htb hE (hF w hw) hr hL (fun x hx => List.mem_append_right _ (List.mem_flatten.2 ⟨Lr, List.mem_of_getElem? hLr, hx⟩)) hj hv) h

/-- A store into an element of a row of a table. -/
theorem WO_storeTE (htb : TabOk P tb) (hE : ∀ x, (E x).length = k) (si : Nat) {T : TypeId} {T0 T1 : Nat} {te : TI} {p x : Operand} {v u rv : Value} {vs : List Value} {xss : List (List α)} {L : List Ent} {i j : Nat} {ys : List α} (y : α) (hg : gd ops e o = some true) (hd : dstOk n o.dst = true) (hop : o.op = .store T p x)
    (hp : ev e p = some (.pointer (some (eAddr rv k j)))) (hx : ev e x = some u) (ho : OwnT T0 T1 k E v vs xss L) (hL : Ls[si]? = some L) (hvs : vs[i]? = some rv) (hy : xss[i]? = some ys) (hj : j < ys.length) (hT : tget tb T = some te) (hk : te.size = k) (hu : u.cells.toList = E y) (h1 : (E y).all Value.oneCell' = true)
    (h : ∀ L', OwnT T0 T1 k E v vs (xss.set i (ys.set j y)) L' → WO P n R ops none l tl kk (setE e o.dst undef) (St w0 m0 m (Ls.set si L'))) : WO P n R ops none (o :: l) tl kk e (St w0 m0 m Ls) := by
  obtain ⟨Lo, Lrs, rfl, h2, h3⟩ := ho
  obtain ⟨u', Lr, hu', hLr, hr⟩ := h3.get hy
  rw [hvs] at hu'
  obtain rfl := Option.some.inj hu'
  have hrr := hr
  rcases hr with ⟨ao, rfl, rfl, _⟩ | ⟨b, cap, rest, rfl, rfl, q3, q4, q5⟩
  · simp at hj
  · have hlen : (ys.flatMap E ++ rest).length = cap * k := q3
    have hbs : bstore tb T (ys.flatMap E ++ rest) (j * k) u = some ((ys.set j y).flatMap E ++ rest) := by
      unfold bstore
      rw [hT]
      have c1 : Nat.beq u.cells.toList.length te.size = true := by rw [hu, hE, hk]; exact Nat.beq_refl k
      have c2 : Nat.ble (j * k + te.size) (ys.flatMap E ++ rest).length = true := by
        rw [Nat.ble_eq, hlen, hk]
        have : (j + 1) * k ≤ cap * k := Nat.mul_le_mul_right k (by omega)
        rw [Nat.add_mul] at this
        omega
      have c3 : u.cells.toList.all Value.oneCell' = true := by rw [hu]; exact h1
      simp only [c1, c2, c3, Bool.and_self, cond_true]
      rw [hu, hk, fm_put hE ys j y rest hj]
    obtain ⟨s1, s2⟩ := split_at hLr
    have hLL : Lo ++ Lrs.flatten = (Lo ++ (Lrs.take i).flatten) ++ ⟨b, T1, ys.flatMap E ++ rest⟩ :: (Lrs.drop (i + 1)).flatten := by
      conv => lhs; rw [s1]
      simp
    have hLL' : Lo ++ (Lrs.set i [⟨b, T1, (ys.set j y).flatMap E ++ rest⟩]).flatten = (Lo ++ (Lrs.take i).flatten) ++ ⟨b, T1, (ys.set j y).flatMap E ++ rest⟩ :: (Lrs.drop (i + 1)).flatten := by
      rw [s2]; simp
    rw [hLL] at hL
    refine WO_write (fun _ : Unit => undef) (fun _ => St w0 m0 m (Ls.set si (Lo ++ (Lrs.set i [⟨b, T1, (ys.set j y).flatMap E ++ rest⟩]).flatten))) hg hd (fun a w ha hw => ⟨(), w.setRow b ((ys.set j y).flatMap E ++ rest).toArray, .inr ⟨?_, rfl⟩, ?_⟩) (fun _ => h _ ⟨Lo, _, rfl, h2, ?_⟩)
    · refine exec_store hop (ha.ev hp) (ha.ev hx) ?_
      have := run_store_row htb hbs ((hw.seg hL).at_ ⟨b, T1, ys.flatMap E ++ rest⟩ (by simp)).1
      have he : eAddr (.slice (some ⟨b, 0, none⟩) ys.length cap) k j = ⟨b, j * k, none⟩ := by
        show (⟨b, 0, none⟩ : Addr).add (j * k) = _
        rw [Addr.add_none rfl, Nat.zero_add]
      rw [he]
      exact this
    · rw [hLL']
      exact hw.setEnt hL
    · have h4 := h3.put i (a := .slice (some ⟨b, 0, none⟩) ys.length cap) (b := ys.set j y) (c := [⟨b, T1, (ys.set j y).flatMap E ++ rest⟩])
        (.inr ⟨b, cap, rest, by rw [List.length_set], rfl, by rw [List.length_append, fm_len hE, List.length_set, ← fm_len hE ys, ← List.length_append]; exact q3, by rw [List.length_set]; exact q4, q5⟩)
      have h5 : vs.set i (.slice (some ⟨b, 0, none⟩) ys.length cap) = vs := by
        obtain ⟨hlt, he⟩ := List.getElem?_eq_some_iff.1 hvs
        rw [← he]; simp
      rw [h5] at h4
      exact h4

theorem WO_storeTcore {β : Type} (Rr : Value → β → List Ent → Prop) (htb : TabOk P tb) (si sj : Nat) {T : TypeId} {T0 : Nat} {te : TI} {p x : Operand} {v u : Value} {vs : List Value} {bs : List β} {Lo : List Ent} {Lrs : List (List Ent)} {Lr : List Ent} {i : Nat} {y : β} (hg : gd ops e o = some true) (hd : dstOk n o.dst = true) (hop : o.op = .store T p x)
    (hp : ev e p = some (.pointer (some (eAddr v 1 i)))) (hx : ev e x = some u) (h2 : OwnE T0 1 V1 v vs Lo) (h3 : All3 Rr vs bs Lrs) (hL : Ls[si]? = some (Lo ++ Lrs.flatten)) (hr : Rr u y Lr) (hLr : Ls[sj]? = some Lr) (hij : Nat.blt si sj = true) (hi : i < bs.length) (hT : tget tb T = some te) (hk : te.size = 1) (hu : u.cells.toList = [u]) (h1 : u.oneCell' = true)
    (h : ∀ Lo', OwnE T0 1 V1 v (vs.set i u) Lo' → All3 Rr (vs.set i u) (bs.set i y) (Lrs.set i Lr) → WO P n R ops none l tl kk (setE e o.dst undef) (St w0 m0 m ((Ls.set si (Lo' ++ (Lrs.set i Lr).flatten)).set sj []))) : WO P n R ops none (o :: l) tl kk e (St w0 m0 m Ls) := by
  have hij' : si < sj := by simpa [Nat.blt_eq] using hij
  have h3l := h3.len
  have hvl := h3l.1
  rcases h2 with ⟨ao, rfl, rfl, _⟩ | ⟨b, cap, rest, rfl, rfl, q3, q4, q5⟩
  · simp at hvl; omega
  · have hlen : (vs.flatMap V1 ++ rest).length = cap * 1 := q3
    have hbs : bstore tb T (vs.flatMap V1 ++ rest) (i * 1) u = some ((vs.set i u).flatMap V1 ++ rest) := by
      unfold bstore
      rw [hT]
      have c1 : Nat.beq u.cells.toList.length te.size = true := by rw [hu, hk]; rfl
      have c2 : Nat.ble (i * 1 + te.size) (vs.flatMap V1 ++ rest).length = true := by
        rw [Nat.ble_eq, hlen, hk]; omega
      have c3 : u.cells.toList.all Value.oneCell' = true := by rw [hu]; simp [h1]
      simp only [c1, c2, c3, Bool.and_self, cond_true]
      rw [hu, hk]
      exact congrArg some (fm_put (E := V1) (fun _ => rfl) vs i u rest (by omega))
    refine WO_write (fun _ : Unit => undef) (fun _ => St w0 m0 m ((Ls.set si ([⟨b, T0, (vs.set i u).flatMap V1 ++ rest⟩] ++ (Lrs.set i Lr).flatten)).set sj [])) hg hd (fun a w ha hw => ⟨(), w.setRow b ((vs.set i u).flatMap V1 ++ rest).toArray, .inr ⟨?_, rfl⟩, ?_⟩)
      (fun _ => h _ (.inr ⟨b, cap, rest, by rw [List.length_set], rfl, ?_, by rw [List.length_set]; exact q4, q5⟩) (h3.put i hr))
    · refine exec_store hop (ha.ev hp) (ha.ev hx) ?_
      have := run_store_row htb hbs ((hw.seg hL).at_ ⟨b, T0, vs.flatMap V1 ++ rest⟩ (by simp)).1
      have he : eAddr (.slice (some ⟨b, 0, none⟩) vs.length cap) 1 i = ⟨b, i * 1, none⟩ := by
        show (⟨b, 0, none⟩ : Addr).add (i * 1) = _
        rw [Addr.add_none rfl, Nat.zero_add]
      rw [he]
      exact this
    · have hm := hw.merge hij' hL hLr
      have hsi : si < Ls.length := (List.getElem?_eq_some_iff.1 hL).1
      have hmi : ((Ls.set si ([⟨b, T0, vs.flatMap V1 ++ rest⟩] ++ Lrs.flatten ++ Lr)).set sj [])[si]? = some ([] ++ ⟨b, T0, vs.flatMap V1 ++ rest⟩ :: (Lrs.flatten ++ Lr)) := by
        rw [List.getElem?_set_ne (by omega), List.getElem?_set_self hsi]; simp
      have hs := hm.setEnt (cs' := (vs.set i u).flatMap V1 ++ rest) hmi
      have hsi2 : si < ((Ls.set si ([⟨b, T0, vs.flatMap V1 ++ rest⟩] ++ Lrs.flatten ++ Lr)).set sj []).length := by simp [hsi]
      have hlr : ∃ Lz, Lrs[i]? = some Lz := ⟨_, List.getElem?_eq_getElem (by omega)⟩
      obtain ⟨Lz, hLz⟩ := hlr
      obtain ⟨s1, s2⟩ := split_at hLz
      have hf := hs.seg_as (i := si) (L1 := ⟨b, T0, (vs.set i u).flatMap V1 ++ rest⟩ :: ((Lrs.take i).flatten ++ (Lr ++ ((Lrs.drop (i + 1)).flatten ++ Lz)))) (L2 := [⟨b, T0, (vs.set i u).flatMap V1 ++ rest⟩] ++ (Lrs.set i Lr).flatten)
        (List.getElem?_set_self hsi2) (by
          simp only [List.nil_append]
          refine List.Perm.cons _ ?_
          conv => lhs; rw [s1]
          simp only [List.flatten_append, List.flatten_cons, List.append_assoc]
          refine List.Perm.append_left _ ?_
          have p1 : (Lz ++ ((Lrs.drop (i + 1)).flatten ++ Lr)).Perm (((Lrs.drop (i + 1)).flatten ++ Lr) ++ Lz) := List.perm_append_comm
          refine p1.trans ?_
          have p2 : ((Lrs.drop (i + 1)).flatten ++ Lr ++ Lz).Perm (Lr ++ (Lrs.drop (i + 1)).flatten ++ Lz) := List.Perm.append_right _ List.perm_append_comm
          simpa using p2) (by
          rw [s2]
          simp only [List.flatten_append, List.flatten_cons, List.cons_append, List.nil_append]
          refine List.Sublist.cons_cons _ (List.Sublist.append (List.Sublist.refl _) (List.Sublist.append (List.Sublist.refl _) (List.sublist_append_left _ _))))
      have e2 : ((((Ls.set si ([⟨b, T0, vs.flatMap V1 ++ rest⟩] ++ Lrs.flatten ++ Lr)).set sj []).set si ([] ++ ⟨b, T0, (vs.set i u).flatMap V1 ++ rest⟩ :: (Lrs.flatten ++ Lr))).set si ([⟨b, T0, (vs.set i u).flatMap V1 ++ rest⟩] ++ (Lrs.set i Lr).flatten)) = (Ls.set si ([⟨b, T0, (vs.set i u).flatMap V1 ++ rest⟩] ++ (Lrs.set i Lr).flatten)).set sj [] := by
        rw [List.set_set]
        rw [List.set_comm _ _ (by omega : sj ≠ si), List.set_set]
      rw [e2] at hf
      exact hf
    · rw [List.length_append, fm_len (E := V1) (fun _ => rfl), List.length_set, ← fm_len (E := V1) (fun _ => rfl) vs, ← List.length_append]
      exact q3

/-- A row that is owned is laid into a table. -/
theorem WO_storeTR (htb : TabOk P tb) (si sj : Nat) {T : TypeId} {T0 T1 : Nat} {te : TI} {p x : Operand} {v u : Value} {vs : List Value} {xss : List (List α)} {L Lr : List Ent} {i : Nat} {ys : List α} (hg : gd ops e o = some true) (hd : dstOk n o.dst = true) (hop : o.op = .store T p x)
    (hp : ev e p = some (.pointer (some (eAddr v 1 i)))) (hx : ev e x = some u) (ho : OwnT T0 T1 k E v vs xss L) (hL : Ls[si]? = some L) (hr : OwnE T1 k E u ys Lr) (hLr : Ls[sj]? = some Lr) (hij : Nat.blt si sj = true) (hi : i < xss.length) (hT : tget tb T = some te) (hk : te.size = 1) (hu : u.cells.toList = [u]) (h1 : u.oneCell' = true)
    (h : ∀ L', OwnT T0 T1 k E v (vs.set i u) (xss.set i ys) L' → WO P n R ops none l tl kk (setE e o.dst undef) (St w0 m0 m ((Ls.set si L').set sj []))) : WO P n R ops none (o :: l) tl kk e (St w0 m0 m Ls) := by
  obtain ⟨Lo, Lrs, rfl, h2, h3⟩ := ho
  exact WO_storeTcore (fun u xs Lr => OwnE T1 k E u xs Lr) htb si sj hg hd hop hp hx h2 h3 hL hr hLr hij hi hT hk hu h1 (fun Lo' a b => h _ ⟨Lo', _, rfl, a, b⟩)

/-! ### A table whose row is out -/

def RowO {α : Type} (T1 k : Nat) (E : α → List Value) (u : Value) (o : Option (List α)) (Lr : List Ent) : Prop := match o with
  | some xs => OwnE T1 k E u xs Lr
  | none => True

def OwnH {α : Type} (T0 T1 k : Nat) (E : α → List Value) (v : Value) (vs : List Value) (xss : List (List α)) (i : Nat) (L : List Ent) : Prop :=
  ∃ (Lo : List Ent) (Lrs : List (List Ent)), L = Lo ++ Lrs.flatten ∧ OwnE T0 1 V1 v vs Lo ∧ All3 (RowO T1 k E) vs ((xss.map some).set i none) Lrs

theorem All3.mapS {T1 : Nat} : ∀ {as : List Value} {bs : List (List α)} {cs : List (List Ent)}, All3 (fun u xs Lr => OwnE T1 k E u xs Lr) as bs cs → All3 (RowO T1 k E) as (bs.map some) cs
  | [], [], [], _ => trivial
  | _ :: _, _ :: _, _ :: _, h => ⟨h.1, All3.mapS h.2⟩
  | [], [], _ :: _, h => h.elim
  | [], _ :: _, _, h => h.elim
  | _ :: _, [], _, h => h.elim
  | _ :: _, _ :: _, [], h => h.elim
theorem All3.unmapS {T1 : Nat} : ∀ {as : List Value} {bs : List (List α)} {cs : List (List Ent)}, All3 (RowO T1 k E) as (bs.map some) cs → All3 (fun u xs Lr => OwnE T1 k E u xs Lr) as bs cs
  | [], [], [], _ => trivial
  | _ :: _, _ :: _, _ :: _, h => ⟨h.1, All3.unmapS h.2⟩
  | [], [], _ :: _, h => h.elim
  | [], _ :: _, _, h => h.elim
  | _ :: _, [], _, h => h.elim
  | _ :: _, _ :: _, [], h => h.elim

theorem OwnH.addr {T0 T1 : Nat} {v : Value} {vs : List Value} {xss : List (List α)} {i : Nat} {L : List Ent} (h : OwnH T0 T1 k E v vs xss i L) : AddrAt v xss.length := by
  obtain ⟨Lo, Lrs, rfl, h2, h3⟩ := h
  have h4 := h3.len.1
  rw [List.length_set, List.length_map] at h4
  have h5 := h2.addr
  rw [h4] at h5
  exact h5

theorem WO_takeT (si : Nat) {T0 T1 : Nat} {v rv : Value} {vs : List Value} {xss : List (List α)} {L : List Ent} {i : Nat} {ys : List α} (ho : OwnT T0 T1 k E v vs xss L) (hL : Ls[si]? = some L) (hvs : vs[i]? = some rv) (hy : xss[i]? = some ys)
    (h : ∀ L' Lr, OwnH T0 T1 k E v vs xss i L' → OwnE T1 k E rv ys Lr → WO P n R ops md l tl kk e (St w0 m0 m (Ls.set si L' ++ [Lr]))) : WO P n R ops md l tl kk e (St w0 m0 m Ls) := by
  obtain ⟨Lo, Lrs, rfl, h2, h3⟩ := ho
  obtain ⟨u, Lr, hu, hLr, hr⟩ := h3.get hy
  rw [hvs] at hu
  obtain rfl := Option.some.inj hu
  have h4 := (All3.mapS h3).put i (a := rv) (b := none) (c := ([] : List Ent)) trivial
  have h5 : vs.set i rv = vs := by
    obtain ⟨hlt, he⟩ := List.getElem?_eq_some_iff.1 hvs
    rw [← he]; simp
  rw [h5] at h4
  obtain ⟨s1, s2⟩ := split_at hLr
  refine WO.cls (fun w hw => ?_) (h _ Lr ⟨Lo, Lrs.set i [], rfl, h2, h4⟩ hr)
  refine hw.perm ?_
  obtain ⟨A, B, hAB, hset⟩ := seg_split hL
  rw [hset, hAB]
  simp only [List.flatten_append, List.flatten_cons, List.flatten_nil, List.append_nil, List.append_assoc]
  refine List.Perm.append_left _ (List.Perm.append_left _ ?_)
  rw [s2]
  conv => lhs; rw [s1]
  simp only [List.flatten_append, List.flatten_cons, List.nil_append, List.append_assoc]
  refine List.Perm.append_left _ ?_
  have hp : (Lr ++ ((Lrs.drop (i + 1)).flatten ++ B.flatten)).Perm (((Lrs.drop (i + 1)).flatten ++ B.flatten) ++ Lr) := List.perm_append_comm
  simpa only [List.append_assoc] using hp

theorem WO_storeTH (htb : TabOk P tb) (si sj : Nat) {T : TypeId} {T0 T1 : Nat} {te : TI} {p x : Operand} {v u : Value} {vs : List Value} {xss : List (List α)} {L Lr : List Ent} {i : Nat} {ys : List α} (hg : gd ops e o = some true) (hd : dstOk n o.dst = true) (hop : o.op = .store T p x)
    (hp : ev e p = some (.pointer (some (eAddr v 1 i)))) (hx : ev e x = some u) (ho : OwnH T0 T1 k E v vs xss i L) (hL : Ls[si]? = some L) (hr : OwnE T1 k E u ys Lr) (hLr : Ls[sj]? = some Lr) (hij : Nat.blt si sj = true) (hi : i < xss.length) (hT : tget tb T = some te) (hk : te.size = 1) (hu : u.cells.toList = [u]) (h1 : u.oneCell' = true)
    (h : ∀ L', OwnT T0 T1 k E v (vs.set i u) (xss.set i ys) L' → WO P n R ops none l tl kk (setE e o.dst undef) (St w0 m0 m ((Ls.set si L').set sj []))) : WO P n R ops none (o :: l) tl kk e (St w0 m0 m Ls) := by
  obtain ⟨Lo, Lrs, rfl, h2, h3⟩ := ho
  refine WO_storeTcore (RowO T1 k E) htb si sj (y := some ys) hg hd hop hp hx h2 h3 hL hr hLr hij (by rw [List.length_set, List.length_map]; exact hi) hT hk hu h1 (fun Lo' a b => h _ ⟨Lo', _, rfl, a, ?_⟩)
  rw [List.set_set, ← List.map_set] at b
  exact All3.unmapS b

theorem WO_makeT (htb : TabOk P tb) {T0 T1 : Nat} {T el : TypeId} {ti te : TI} {ln cp : Operand} {kl kc : IntKind} {len cap : Int} {z : Value} (hg : gd ops e o = some true) (hd : dstOk n o.dst = true) (hcl : MdCl md) (hop : o.op = .makeSlice T ln cp)
    (hln : ev e ln = some (.int kl len)) (hcp : ev e cp = some (.int kc cap)) (hT : tget tb T = some ti) (hds : ti.desc = .slice el) (hel : tget tb el = some te) (hk : te.size = 1) (hz : te.zero = some z) (hzy : z.cells.toList = [.slice none 0 0]) (hT0 : el = T0)
    (h0 : 0 ≤ len ∧ len ≤ cap ∧ (te.bytes : Int) * cap ≤ 281474976710656 ∧ cap ≤ 9223372036854775807)
    (h : ∀ b cap' L, OwnT T0 T1 k E (.slice (some ⟨b, 0, none⟩) (List.replicate len.toNat ([] : List α)).length cap') (List.replicate len.toNat (.slice none 0 0)) (List.replicate len.toNat ([] : List α)) L → WO P n R ops md l tl kk (setE e o.dst (.slice (some ⟨b, 0, none⟩) (List.replicate len.toNat ([] : List α)).length cap')) (St w0 m0 m (Ls ++ [L]))) :
    WO P n R ops md (o :: l) tl kk e (St w0 m0 m Ls) := by
  subst hT0
  refine WO_make (E := V1) htb (fun _ => rfl) (by decide) (.slice none 0 0) hg hd hcl hop hln hcp hT hds hel hk hz hzy h0 (fun b cap' L hL => ?_)
  have he : (List.replicate len.toNat (Value.slice none 0 0)).length = (List.replicate len.toNat ([] : List α)).length := by simp
  rw [he]
  rw [he] at hL
  exact h b cap' L (OwnT.nils hL)

end
end Go.E
