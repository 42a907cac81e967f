/-
  ENGINE: an array of rows that are read, with one row out: its header is written anew while the row grows.
-/
import Derived.Test.YtbolefkhmfbnlaaEng14
set_option linter.unusedVariables false
namespace Go.E

def OwnO {β : Type} (T : TypeId) (El : Mu → List Value → β → Prop) (m : Mu) (v : Value) (xs : List β) (i : Nat) (u : Value) (L : List Ent) : Prop :=
  ∃ vs : List Value, OwnE T 1 V1 v (vs.set i u) L ∧ All2 (fun u x => El m (V1 u) x) vs xs ∧ i < xs.length

section
variable {β : Type} {T : TypeId} {El : Mu → List Value → β → Prop} {m m' : Mu} {v u : Value} {xs : List β} {i : Nat} {L : List Ent}
theorem OwnO.mono (h : OwnO T El m v xs i u L) (hE : Mono El) (hl : Le m m') : OwnO T El m' v xs i u L :=
  let ⟨vs, h1, h2, h3⟩ := h
  ⟨vs, h1, h2.imp2 fun _ _ hr => hE _ _ _ _ hl hr, h3⟩
theorem OwnO.addr (h : OwnO T El m v xs i u L) : AddrAt v xs.length := by
  obtain ⟨vs, h1, h2, _⟩ := h
  have := h1.addr
  rw [List.length_set, h2.len] at this
  exact this
theorem OwnO.back {y : β} (h : OwnO T El m v xs i u L) (hy : El m (V1 u) y) : OwnX T 1 V1 El m v (xs.set i y) L :=
  let ⟨vs, h1, h2, _⟩ := h
  ⟨vs.set i u, h1, h2.put i hy⟩
theorem OwnO.qlen {a : Option Addr} {q c : Nat} (h : OwnO T El m (.slice a q c) xs i u L) : q = xs.length := by
  obtain ⟨vs, h1, h2, _⟩ := h
  rw [h1.qlen, List.length_set, h2.len]
end

section
variable {P : Program} {n : Nat} {R : Act → World → Prop} {ops : Array Oper} {md : Option (World → Prop)} {l : List Oper} {tl : Act → World → Prop} {kk : List KI} {e : Env} {C : World → Prop}
variable {w0 : World} {m0 m : Mu} {Ls : List (List Ent)} {tb : Tab} {o : Oper} {β : Type} {El : Mu → List Value → β → Prop}

theorem WO_storeOut (htb : TabOk P tb) (si : Nat) {T T' : TypeId} {te : TI} {p x : Operand} {v u : Value} {xs : List β} {L : List Ent} {i : Nat} (hg : gd ops e o = some true) (hd : dstOk n o.dst = true) (hop : o.op = .store T p x)
    (hp : ev e p = some (.pointer (some (eAddr v 1 i)))) (hx : ev e x = some u) (ho : OwnX T' 1 V1 El m v xs L) (hL : Ls[si]? = some L) (hi : i < xs.length) (hT : tget tb T = some te) (hk : te.size = 1) (hu : u.cells.toList = V1 u) (h1 : (V1 u).all Value.oneCell' = true)
    (h : ∀ L', OwnO T' El m v xs i u L' → WO P n R ops none l tl kk (setE e o.dst undef) (St w0 m0 m (Ls.set si L'))) : WO P n R ops none (o :: l) tl kk e (St w0 m0 m Ls) := by
  obtain ⟨vs, h3, h4⟩ := ho
  exact WO_storeO (k := 1) (E := V1) htb (fun _ => rfl) si u hg hd hop hp hx h3 hL (by rw [h4.len]; exact hi) hT hk hu h1 (fun L' hL' => h L' ⟨vs, hL', h4, hi⟩)

theorem WO_storeOO (htb : TabOk P tb) (si : Nat) {T T' : TypeId} {te : TI} {p x : Operand} {v u u' : Value} {xs : List β} {L : List Ent} {i : Nat} (hg : gd ops e o = some true) (hd : dstOk n o.dst = true) (hop : o.op = .store T p x)
    (hp : ev e p = some (.pointer (some (eAddr v 1 i)))) (hx : ev e x = some u) (ho : OwnO T' El m v xs i u' L) (hL : Ls[si]? = some L) (hT : tget tb T = some te) (hk : te.size = 1) (hu : u.cells.toList = V1 u) (h1 : (V1 u).all Value.oneCell' = true)
    (h : ∀ L', OwnO T' El m v xs i u L' → WO P n R ops none l tl kk (setE e o.dst undef) (St w0 m0 m (Ls.set si L'))) : WO P n R ops none (o :: l) tl kk e (St w0 m0 m Ls) := by
  obtain ⟨vs, h3, h4, hi⟩ := ho
  exact WO_storeO (k := 1) (E := V1) htb (fun _ => rfl) si u hg hd hop hp hx h3 hL (by rw [List.length_set, h4.len]; exact hi) hT hk hu h1 (fun L' hL' => h L' ⟨vs, by rw [List.set_set] at hL'; exact hL', h4, hi⟩)

theorem WO_loadOut (htb : TabOk P tb) (si : Nat) {T T' : TypeId} {x : Operand} {v u u' : Value} {xs : List β} {L : List Ent} {i : Nat} {w0' : World} {m0' m' m1 : Mu} {Ls' : List (List Ent)} (hg : gd ops e o = some true) (hd : dstOk n o.dst = true) (hop : o.op = .load T x)
    (hx : ev e x = some (.pointer (some (eAddr v 1 i)))) (hF : ∀ w, (md.getD C) w → St w0' m0' m' Ls' w) (ho : OwnO T' El m1 v xs i u L) (hL : Ls'[si]? = some L) (hv : bload tb T (V1 u) 0 = some u')
    (h : WO P n R ops md l tl kk (setE e o.dst u') C) : WO P n R ops md (o :: l) tl kk e C := by
  obtain ⟨vs, h1, h2, h3⟩ := ho
  exact WO_loadO (k := 1) (E := V1) htb (fun _ => rfl) si hg hd hop hx hF h1 hL (List.getElem?_set_self (by rw [h2.len]; exact h3)) hv h
end
end Go.E
