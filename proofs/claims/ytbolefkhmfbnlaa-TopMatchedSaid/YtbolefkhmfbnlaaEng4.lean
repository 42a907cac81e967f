/-
  THE ENGINE, 4: what is known of memory: a part that stands for good (m), segments that the call owns (Ls), slices that read as lists.
-/
import Derived.Test.YtbolefkhmfbnlaaEng3
namespace Go.E
open Go.RowKit

abbrev Mu := Nat → Option Obj
def Sat (m : Mu) (w : World) : Prop := ∀ b o, m b = some o → w.heap[b]? = some o
def Le (m m' : Mu) : Prop := ∀ b o, m b = some o → m' b = some o
theorem Le.refl (m : Mu) : Le m m := fun _ _ h => h
theorem Le.trans {a b c : Mu} (h : Le a b) (k : Le b c) : Le a c := fun x o hx => k x o (h x o hx)
theorem Sat.le {m m' : Mu} {w : World} (h : Sat m' w) (hl : Le m m') : Sat m w := fun b o hb => h b o (hl b o hb)
theorem Sat.lt {m : Mu} {w : World} (h : Sat m w) {b : Nat} (hb : m b ≠ none) : b < w.heap.size := by
  cases hm : m b with
  | none => exact absurd hm hb
  | some o => exact (Array.getElem?_eq_some_iff.1 (h b o hm)).1
theorem Sat.ext {m : Mu} {w w' : World} (h : Sat m w) (he : Ext w w') : Sat m w' := fun b o hb => by
  have h1 := h b o hb
  rw [Below.block he b (Array.getElem?_eq_some_iff.1 h1).1]
  exact h1

structure Ent where
  b : Nat
  T : TypeId
  c : List Value
def Ent.obj (x : Ent) : Obj := .cells x.c.toArray x.T

def view (m : Mu) (L : List Ent) : Mu := fun b => match L.find? (fun x => Nat.beq x.b b) with
  | some x => some x.obj
  | none => m b

def NewOnly (B : Nat) (m m' : Mu) : Prop := ∀ b, m' b ≠ none → m b ≠ none ∨ B ≤ b

structure OwnL (m : Mu) (B : Nat) (L : List Ent) (w : World) : Prop where
  at_ : ∀ x ∈ L, w.heap[x.b]? = some x.obj ∧ B ≤ x.b ∧ m x.b = none
  nd : (L.map (·.b)).Nodup

structure St (w0 : World) (m0 m : Mu) (Ls : List (List Ent)) (w : World) : Prop where
  below : Below w0.heap.size w0 w
  le : Le m0 m
  new : NewOnly w0.heap.size m0 m
  sat : Sat m w
  own : OwnL m w0.heap.size Ls.flatten w

theorem OwnL.nil {m : Mu} {B : Nat} {w : World} : OwnL m B [] w := ⟨fun _ h => (by cases h), by simp⟩
theorem OwnL.ext {m : Mu} {B : Nat} {L : List Ent} {w w' : World} (h : OwnL m B L w) (he : Ext w w') : OwnL m B L w' :=
  ⟨fun x hx => by
    obtain ⟨h1, h2, h3⟩ := h.at_ x hx
    exact ⟨by rw [Below.block he x.b (Array.getElem?_eq_some_iff.1 h1).1]; exact h1, h2, h3⟩, h.nd⟩
theorem OwnL.sub {m : Mu} {B : Nat} {L L' : List Ent} {w : World} (h : OwnL m B L w) (hs : L'.Sublist L) : OwnL m B L' w :=
  ⟨fun x hx => h.at_ x (hs.subset hx), (hs.map _).nodup h.nd⟩
theorem OwnL.lt {m : Mu} {B : Nat} {L : List Ent} {w : World} (h : OwnL m B L w) {x : Ent} (hx : x ∈ L) : x.b < w.heap.size := (Array.getElem?_eq_some_iff.1 (h.at_ x hx).1).1
theorem OwnL.append {m : Mu} {B : Nat} {L L' : List Ent} {w : World} (h : OwnL m B L w) (h' : OwnL m B L' w) (hd : ∀ x ∈ L, ∀ y ∈ L', x.b ≠ y.b) : OwnL m B (L ++ L') w :=
  ⟨fun x hx => (List.mem_append.1 hx).elim (h.at_ x) (h'.at_ x), by
    rw [List.map_append, List.nodup_append]
    refine ⟨h.nd, h'.nd, fun a ha b hb => ?_⟩
    obtain ⟨x, hx, rfl⟩ := List.mem_map.1 ha
    obtain ⟨y, hy, rfl⟩ := List.mem_map.1 hb
    exact hd x hx y hy⟩

theorem St.ext {w0 : World} {m0 m : Mu} {Ls : List (List Ent)} {w w' : World} (h : St w0 m0 m Ls w) (he : Ext w w') : St w0 m0 m Ls w' :=
  ⟨h.below.trans (Below.mono he h.below.size), h.le, h.new, h.sat.ext he, h.own.ext he⟩

theorem St_closed {w0 : World} {m0 m : Mu} {Ls : List (List Ent)} : Closed (St w0 m0 m Ls) := fun _ _ h he => h.ext he

theorem St.start (w0 : World) {m : Mu} (h : Sat m w0) : St w0 m m [] w0 := ⟨Below.refl _ _, Le.refl _, fun _ hb => .inl hb, h, OwnL.nil⟩

theorem St.sub {w0 : World} {m0 m : Mu} {Ls Ls' : List (List Ent)} {w : World} (h : St w0 m0 m Ls w) (hs : Ls'.flatten.Sublist Ls.flatten) : St w0 m0 m Ls' w :=
  ⟨h.below, h.le, h.new, h.sat, h.own.sub hs⟩

theorem St.take {w0 : World} {m0 m : Mu} {Ls : List (List Ent)} {w : World} (n : Nat) (h : St w0 m0 m Ls w) : St w0 m0 m (Ls.take n) w :=
  h.sub (by
    have e : Ls.flatten = (Ls.take n).flatten ++ (Ls.drop n).flatten := by rw [← List.flatten_append, List.take_append_drop]
    rw [e]; exact List.sublist_append_left _ _)

theorem Ext.alloc (w : World) (o : Obj) : Ext w (w.alloc o) := (Below.refl _ _).alloc (Nat.le_refl _) o

theorem St.alloc {w0 : World} {m0 m : Mu} {Ls : List (List Ent)} {w : World} (h : St w0 m0 m Ls w) (T : TypeId) (cs : List Value) :
    St w0 m0 m (Ls ++ [[⟨w.heap.size, T, cs⟩]]) (w.alloc (.cells cs.toArray T)) := by
  have h1 := h.ext (Ext.alloc w (.cells cs.toArray T))
  refine ⟨h1.below, h1.le, h1.new, h1.sat, ?_⟩
  rw [List.flatten_append]
  refine h1.own.append ⟨fun x hx => ?_, by simp⟩ (fun x hx y hy => ?_)
  · simp only [List.flatten_cons, List.flatten_nil, List.append_nil, List.mem_singleton] at hx
    subst hx
    refine ⟨heap_alloc_new w _, h.below.size, ?_⟩
    cases hm : m w.heap.size with
    | none => rfl
    | some o => exact absurd (h.sat.lt (b := w.heap.size) (by simp [hm])) (by omega)
  · simp only [List.flatten_cons, List.flatten_nil, List.append_nil, List.mem_singleton] at hy
    subst hy
    have := h.own.lt hx
    exact Nat.ne_of_lt this

theorem St.called {w0 : World} {m0 m m' : Mu} {Ls : List (List Ent)} {w w' : World} {L : List Ent} (h : St w0 m0 m Ls w) (he : Ext w w') (hle : Le m m') (hn : NewOnly w.heap.size m m') (hs : Sat m' w')
    (ho : OwnL m' w.heap.size L w') : St w0 m0 m' (Ls ++ [L]) w' := by
  have h1 := h.ext he
  refine ⟨h1.below, h.le.trans hle, fun b hb => ?_, hs, ?_⟩
  · rcases hn b hb with hb | hb
    · exact h.new b hb
    · exact .inr (Nat.le_trans h.below.size hb)
  · rw [List.flatten_append]
    refine OwnL.append ⟨fun x hx => ?_, h1.own.nd⟩ ⟨fun x hx => ?_, by simpa using ho.nd⟩ (fun x hx y hy => ?_)
    · obtain ⟨a1, a2, a3⟩ := h1.own.at_ x hx
      refine ⟨a1, a2, ?_⟩
      cases hm : m' x.b with
      | none => rfl
      | some o =>
        rcases hn x.b (by simp [hm]) with hb | hb
        · exact absurd a3 hb
        · have := h.own.lt hx; omega
    · simp only [List.flatten_cons, List.flatten_nil, List.append_nil] at hx
      obtain ⟨a1, a2, a3⟩ := ho.at_ x hx
      exact ⟨a1, Nat.le_trans h.below.size a2, a3⟩
    · simp only [List.flatten_cons, List.flatten_nil, List.append_nil] at hy
      have h2 := h.own.lt hx
      have h3 := (ho.at_ y hy).2.1
      omega

theorem seg_split {Ls : List (List Ent)} {i : Nat} {L : List Ent} (hi : Ls[i]? = some L) : ∃ A B, Ls = A ++ L :: B ∧ ∀ L', Ls.set i L' = A ++ L' :: B := by
  obtain ⟨hlt, he⟩ := List.getElem?_eq_some_iff.1 hi
  refine ⟨Ls.take i, Ls.drop (i + 1), ?_, fun L' => ?_⟩
  · rw [← he]; simp
  · rw [List.set_eq_take_append_cons_drop, if_pos hlt]

/-- One segment is written anew, the rest stays. -/
theorem St.put {w0 : World} {m0 m : Mu} {Ls : List (List Ent)} {w w' : World} {i : Nat} {L L' : List Ent} (h : St w0 m0 m Ls w) (hi : Ls[i]? = some L)
    (hos : w'.os = w.os) (htape : w'.tape = w.tape) (hout : w'.output = w.output) (hsz : w.heap.size ≤ w'.heap.size)
    (hrest : ∀ b, b < w.heap.size → (∀ x ∈ L, x.b ≠ b) → w'.heap[b]? = w.heap[b]?)
    (hL' : ∀ x ∈ L', w'.heap[x.b]? = some x.obj ∧ ((∃ y ∈ L, y.b = x.b) ∨ w.heap.size ≤ x.b)) (hnd : (L'.map (·.b)).Nodup) : St w0 m0 m (Ls.set i L') w' := by
  obtain ⟨A, B, hAB, hset⟩ := seg_split hi
  have hown := h.own
  rw [hAB, List.flatten_append, List.flatten_cons] at hown
  have hinL : ∀ x ∈ L, w0.heap.size ≤ x.b ∧ m x.b = none ∧ x.b < w.heap.size := fun x hx => by
    have hx' : x ∈ A.flatten ++ (L ++ B.flatten) := List.mem_append_right _ (List.mem_append_left _ hx)
    have := hown.at_ x hx'
    exact ⟨this.2.1, this.2.2, hown.lt hx'⟩
  have hnd0 := hown.nd
  rw [List.map_append, List.map_append, List.nodup_append, List.nodup_append] at hnd0
  obtain ⟨ndA, ⟨_, ndB, dLB⟩, dA⟩ := hnd0
  have hkeep : ∀ x, x ∈ A.flatten ∨ x ∈ B.flatten → w'.heap[x.b]? = w.heap[x.b]? ∧ x ∈ A.flatten ++ (L ++ B.flatten) := fun x hx => by
    have hx' : x ∈ A.flatten ++ (L ++ B.flatten) := by
      rcases hx with hx | hx
      · exact List.mem_append_left _ hx
      · exact List.mem_append_right _ (List.mem_append_right _ hx)
    refine ⟨hrest x.b (hown.lt hx') (fun y hy => ?_), hx'⟩
    rcases hx with hx | hx
    · exact Ne.symm (dA _ (List.mem_map_of_mem hx) _ (List.mem_append_left _ (List.mem_map_of_mem hy)))
    · exact dLB _ (List.mem_map_of_mem hy) _ (List.mem_map_of_mem hx)
  refine ⟨h.below.trans ⟨hos, htape, hout, hsz, fun b hb => hrest b (Nat.lt_of_lt_of_le hb h.below.size) (fun x hx => by have := (hinL x hx).1; omega)⟩, h.le, h.new, fun b o hb => ?_, ?_⟩
  · have h1 := h.sat b o hb
    rw [hrest b (Array.getElem?_eq_some_iff.1 h1).1 (fun x hx he => by subst he; rw [(hinL x hx).2.1] at hb; cases hb)]
    exact h1
  · rw [hset, List.flatten_append, List.flatten_cons]
    have hnew : ∀ x ∈ L', w0.heap.size ≤ x.b ∧ m x.b = none := fun x hx => by
      rcases (hL' x hx).2 with ⟨y, hy, hyx⟩ | hge
      · rw [← hyx]; exact ⟨(hinL y hy).1, (hinL y hy).2.1⟩
      · refine ⟨Nat.le_trans h.below.size hge, ?_⟩
        cases hm : m x.b with
        | none => rfl
        | some o => exact absurd (h.sat.lt (b := x.b) (by simp [hm])) (by omega)
    have hne : ∀ x, x ∈ A.flatten ∨ x ∈ B.flatten → ∀ y ∈ L', x.b ≠ y.b := fun x hx y hy he => by
      rcases (hL' y hy).2 with ⟨z, hz, hzy⟩ | hge
      · rcases hx with hx | hx
        · exact dA _ (List.mem_map_of_mem hx) _ (List.mem_append_left _ (List.mem_map_of_mem hz)) (he.trans hzy.symm)
        · exact dLB _ (List.mem_map_of_mem hz) _ (List.mem_map_of_mem hx) (hzy.trans he.symm)
      · have := hown.lt (hkeep x hx).2
        omega
    refine ⟨fun x hx => ?_, ?_⟩
    · rcases List.mem_append.1 hx with hx | hx
      · obtain ⟨h1, h2⟩ := hkeep x (.inl hx)
        have := hown.at_ x h2
        exact ⟨h1.trans this.1, this.2⟩
      · rcases List.mem_append.1 hx with hx | hx
        · exact ⟨(hL' x hx).1, hnew x hx⟩
        · obtain ⟨h1, h2⟩ := hkeep x (.inr hx)
          have := hown.at_ x h2
          exact ⟨h1.trans this.1, this.2⟩
    · rw [List.map_append, List.map_append, List.nodup_append, List.nodup_append]
      refine ⟨ndA, ⟨hnd, ndB, fun a ha b hb => ?_⟩, fun a ha b hb => ?_⟩
      · obtain ⟨y, hy, rfl⟩ := List.mem_map.1 ha
        obtain ⟨x, hx, rfl⟩ := List.mem_map.1 hb
        exact Ne.symm (hne x (.inr hx) y hy)
      · obtain ⟨x, hx, rfl⟩ := List.mem_map.1 ha
        rcases List.mem_append.1 hb with hb | hb
        · obtain ⟨y, hy, rfl⟩ := List.mem_map.1 hb
          exact hne x (.inl hx) y hy
        · exact dA _ (List.mem_map_of_mem hx) _ (List.mem_append_right _ hb)

theorem St.seg {w0 : World} {m0 m : Mu} {Ls : List (List Ent)} {w : World} {i : Nat} {L : List Ent} (h : St w0 m0 m Ls w) (hi : Ls[i]? = some L) : OwnL m w0.heap.size L w := by
  obtain ⟨A, B, hAB, _⟩ := seg_split hi
  refine h.own.sub ?_
  rw [hAB, List.flatten_append, List.flatten_cons]
  exact (List.sublist_append_left L B.flatten).trans (List.sublist_append_right _ _)

theorem view_mem {m : Mu} {L : List Ent} (hnd : (L.map (·.b)).Nodup) {x : Ent} (hx : x ∈ L) : view m L x.b = some x.obj := by
  unfold view
  have : L.find? (fun y => Nat.beq y.b x.b) = some x := by
    induction L with
    | nil => cases hx
    | cons y L ih =>
      simp only [List.map_cons, List.nodup_cons] at hnd
      rcases List.mem_cons.1 hx with rfl | hx
      · simp [Nat.beq_refl]
      · have hne : Nat.beq y.b x.b = false := by
          cases hb : Nat.beq y.b x.b with
          | false => rfl
          | true => exact absurd (List.mem_map_of_mem hx) (Nat.eq_of_beq_eq_true hb ▸ hnd.1)
        rw [List.find?_cons, hne]
        exact ih hnd.2 hx
  rw [this]

theorem view_cases (m : Mu) (L : List Ent) (b : Nat) : (∃ x ∈ L, x.b = b ∧ view m L b = some x.obj) ∨ ((∀ x ∈ L, x.b ≠ b) ∧ view m L b = m b) := by
  unfold view
  cases hf : L.find? (fun x => Nat.beq x.b b) with
  | some x =>
    have h1 := List.mem_of_find?_eq_some hf
    have h2 := List.find?_some hf
    exact .inl ⟨x, h1, Nat.eq_of_beq_eq_true h2, rfl⟩
  | none =>
    refine .inr ⟨fun x hx he => ?_, rfl⟩
    have := List.find?_eq_none.1 hf x hx
    rw [he, Nat.beq_refl] at this
    exact this rfl

theorem le_view {m : Mu} {L : List Ent} (h : ∀ x ∈ L, m x.b = none) : Le m (view m L) := fun b o hb => by
  rcases view_cases m L b with ⟨x, hx, he, _⟩ | ⟨_, hv⟩
  · rw [← he, h x hx] at hb; cases hb
  · rw [hv]; exact hb

theorem sat_view {m : Mu} {L : List Ent} {w : World} {B : Nat} (hs : Sat m w) (h : OwnL m B L w) : Sat (view m L) w := fun b o hb => by
  rcases view_cases m L b with ⟨x, hx, he, hv⟩ | ⟨_, hv⟩
  · rw [hv] at hb
    rw [← he, (h.at_ x hx).1, ← Option.some.inj hb]
  · rw [hv] at hb; exact hs b o hb

theorem St.leV {w0 : World} {m0 m : Mu} {Ls : List (List Ent)} {w : World} (h : St w0 m0 m Ls w) : Le m (view m Ls.flatten) := le_view fun x hx => (h.own.at_ x hx).2.2
theorem St.satV {w0 : World} {m0 m : Mu} {Ls : List (List Ent)} {w : World} (h : St w0 m0 m Ls w) : Sat (view m Ls.flatten) w := sat_view h.sat h.own
theorem St.memV {w0 : World} {m0 m : Mu} {Ls : List (List Ent)} {w : World} (h : St w0 m0 m Ls w) {i : Nat} {L : List Ent} (hi : Ls[i]? = some L) {x : Ent} (hx : x ∈ L) : view m Ls.flatten x.b = some x.obj := by
  refine view_mem h.own.nd ?_
  obtain ⟨A, B, hAB, _⟩ := seg_split hi
  rw [hAB, List.flatten_append, List.flatten_cons]
  exact List.mem_append_right _ (List.mem_append_left _ hx)

/-- A segment that is written no more. -/
theorem St.freeze {w0 : World} {m0 m : Mu} {Ls : List (List Ent)} {w : World} {i : Nat} {L : List Ent} (h : St w0 m0 m Ls w) (hi : Ls[i]? = some L) : St w0 m0 (view m L) (Ls.set i []) w := by
  obtain ⟨A, B, hAB, hset⟩ := seg_split hi
  have hseg := h.seg hi
  have hown := h.own
  rw [hAB, List.flatten_append, List.flatten_cons] at hown
  have hnd0 := hown.nd
  rw [List.map_append, List.map_append, List.nodup_append, List.nodup_append] at hnd0
  obtain ⟨ndA, ⟨_, ndB, dLB⟩, dA⟩ := hnd0
  refine ⟨h.below, h.le.trans (le_view fun x hx => (hseg.at_ x hx).2.2), fun b hb => ?_, sat_view h.sat hseg, ?_⟩
  · rcases view_cases m L b with ⟨x, hx, he, _⟩ | ⟨_, hv⟩
    · exact .inr (he ▸ (hseg.at_ x hx).2.1)
    · rw [hv] at hb; exact h.new b hb
  · rw [hset, List.flatten_append, List.flatten_cons, List.nil_append]
    have hmem : ∀ x, x ∈ A.flatten ∨ x ∈ B.flatten → x ∈ A.flatten ++ (L ++ B.flatten) := fun x hx => by
      rcases hx with hx | hx
      · exact List.mem_append_left _ hx
      · exact List.mem_append_right _ (List.mem_append_right _ hx)
    refine ⟨fun x hx => ?_, ?_⟩
    · have hx' := List.mem_append.1 hx
      obtain ⟨a1, a2, a3⟩ := hown.at_ x (hmem x hx')
      refine ⟨a1, a2, ?_⟩
      rcases view_cases m L x.b with ⟨y, hy, he, _⟩ | ⟨_, hv⟩
      · exfalso
        rcases hx' with hx | hx
        · exact dA _ (List.mem_map_of_mem hx) _ (List.mem_append_left _ (List.mem_map_of_mem hy)) he.symm
        · exact dLB _ (List.mem_map_of_mem hy) _ (List.mem_map_of_mem hx) he
      · rw [hv]; exact a3
    · rw [List.map_append, List.nodup_append]
      exact ⟨ndA, ndB, fun a ha b hb => dA a ha b (List.mem_append_right _ hb)⟩

/-! ### Slices that read as lists -/

def eAddr (v : Value) (k i : Nat) : Addr := match v with
  | .slice (some a) _ _ => a.add (i * k)
  | _ => default

/-- The slice v reads, in the part of memory that stands, as xs: each element takes k cells. -/
def SlR {α : Type} (El : Mu → List Value → α → Prop) (k : Nat) (m : Mu) (v : Value) (xs : List α) : Prop :=
  ∃ ao cap, v = .slice ao xs.length cap ∧ xs.length ≤ cap ∧ cap ≤ maxLen ∧ (ao = none → cap = 0) ∧
    ∀ i x, xs[i]? = some x → ∃ a cells T fr cs, ao = some a ∧ a.spot = none ∧ m a.block = some (.cells cells T fr) ∧ cs.length = k ∧
      (∀ (j : Nat) u, cs[j]? = some u → cells[a.off + i * k + j]? = some u) ∧ El m cs x

def Mono {α : Type} (El : Mu → List Value → α → Prop) : Prop := ∀ m m' cs x, Le m m' → El m cs x → El m' cs x

theorem SlR.mono {α : Type} {El : Mu → List Value → α → Prop} (hE : Mono El) {k : Nat} {m m' : Mu} {v : Value} {xs : List α} (h : SlR El k m v xs) (hl : Le m m') : SlR El k m' v xs := by
  obtain ⟨ao, cap, h1, h2, h3, h4, h5⟩ := h
  refine ⟨ao, cap, h1, h2, h3, h4, fun i x hx => ?_⟩
  obtain ⟨a, cells, T, fr, cs, q1, q2, q3, q4, q5, q6⟩ := h5 i x hx
  exact ⟨a, cells, T, fr, cs, q1, q2, hl _ _ q3, q4, q5, hE _ _ _ _ hl q6⟩

/-- Elements that are told by their cells. -/
def FE {α : Type} (E : α → List Value) : Mu → List Value → α → Prop := fun _ cs x => cs = E x
/-- Elements that are slices themselves. -/
def RowE {α : Type} (El : Mu → List Value → α → Prop) (k : Nat) : Mu → List Value → List α → Prop := fun m cs xs => ∃ v, cs = [v] ∧ SlR El k m v xs

theorem mono_FE {α : Type} (E : α → List Value) : Mono (FE E) := fun _ _ _ _ _ h => h
theorem mono_RowE {α : Type} {El : Mu → List Value → α → Prop} (hE : Mono El) (k : Nat) : Mono (RowE El k) := fun _ _ _ _ hl ⟨v, h1, h2⟩ => ⟨v, h1, h2.mono hE hl⟩

theorem Addr.add_none {a : Addr} (h : a.spot = none) (n : Nat) : a.add n = ⟨a.block, a.off + n, none⟩ := by
  obtain ⟨b, o, s⟩ := a
  simp only at h
  subst h
  unfold Addr.add
  split
  · rename_i hn; subst hn; rfl
  · rfl

theorem SlR.len {α : Type} {El : Mu → List Value → α → Prop} {k : Nat} {m : Mu} {v : Value} {xs : List α} (h : SlR El k m v xs) : ∃ ao cap, v = .slice ao xs.length cap ∧ xs.length ≤ cap ∧ cap ≤ maxLen :=
  let ⟨ao, cap, h1, h2, h3, _⟩ := h
  ⟨ao, cap, h1, h2, h3⟩

theorem SlR.at_ {α : Type} {El : Mu → List Value → α → Prop} {k : Nat} {m : Mu} {v : Value} {xs : List α} (h : SlR El k m v xs) {i : Nat} {x : α} (hx : xs[i]? = some x) {w : World} (hs : Sat m w) :
    ∃ a cap cs, v = .slice (some a) xs.length cap ∧ a.spot = none ∧ cs.length = k ∧ El m cs x ∧ ∀ (j : Nat) u, cs[j]? = some u → w.cell? ((eAddr v k i).add j) = some u := by
  obtain ⟨ao, cap, h1, h2, h3, h4, h5⟩ := h
  obtain ⟨a, cells, T, fr, cs, q1, q2, q3, q4, q5, q6⟩ := h5 i x hx
  subst q1
  refine ⟨a, cap, cs, h1, q2, q4, q6, fun j u hu => ?_⟩
  have he : (eAddr v k i).add j = ⟨a.block, a.off + i * k + j, none⟩ := by
    rw [h1]
    show (a.add (i * k)).add j = _
    rw [Addr.add_none q2, Addr.add_none rfl]
  rw [he]
  have hb := hs _ _ q3
  simp only [World.cell?, hb]
  exact q5 j u hu

/-! ### Slices that the call owns -/

def OwnE {α : Type} (T k : Nat) (E : α → List Value) (v : Value) (xs : List α) (L : List Ent) : Prop :=
  (∃ ao, v = .slice ao 0 0 ∧ xs = [] ∧ L = []) ∨
  ∃ b cap rest, v = .slice (some ⟨b, 0, none⟩) xs.length cap ∧ L = [⟨b, T, xs.flatMap E ++ rest⟩] ∧ (xs.flatMap E ++ rest).length = cap * k ∧ xs.length ≤ cap ∧ cap ≤ maxLen

section
variable {α : Type} {E : α → List Value} {k : Nat}

theorem fm_len (hE : ∀ x, (E x).length = k) : ∀ xs : List α, (xs.flatMap E).length = xs.length * k
  | [] => by simp
  | x :: xs => by simp [List.flatMap_cons, hE, fm_len hE xs, Nat.add_mul, Nat.add_comm]

theorem fm_get (hE : ∀ x, (E x).length = k) : ∀ (xs : List α) (i : Nat) (x : α) (j : Nat), xs[i]? = some x → j < k → (xs.flatMap E)[i * k + j]? = (E x)[j]?
  | [], i, x, j, h, _ => by simp at h
  | y :: xs, 0, x, j, h, hj => by
    simp only [List.getElem?_cons_zero, Option.some.injEq] at h
    subst h
    rw [List.flatMap_cons, Nat.zero_mul, Nat.zero_add, List.getElem?_append_left (by rw [hE]; exact hj)]
  | y :: xs, i + 1, x, j, h, hj => by
    rw [List.flatMap_cons, List.getElem?_append_right (by rw [hE, Nat.add_mul]; omega), hE]
    rw [show (i + 1) * k + j - k = i * k + j by rw [Nat.add_mul]; omega]
    exact fm_get hE xs i x j (by simpa using h) hj

theorem fm_put (hE : ∀ x, (E x).length = k) : ∀ (xs : List α) (i : Nat) (u : α) (rest : List Value), i < xs.length →
    (xs.flatMap E ++ rest).take (i * k) ++ E u ++ (xs.flatMap E ++ rest).drop (i * k + k) = (xs.set i u).flatMap E ++ rest
  | [], i, u, rest, h => by simp at h
  | y :: xs, 0, u, rest, _ => by
    simp only [Nat.zero_mul, List.take_zero, List.nil_append, Nat.zero_add, List.set_cons_zero, List.flatMap_cons, List.append_assoc]
    rw [List.drop_append_of_le_length (by rw [hE]; exact Nat.le_refl _), List.drop_of_length_le (by rw [hE]; exact Nat.le_refl _), List.nil_append]
  | y :: xs, i + 1, u, rest, h => by
    have ih := fm_put hE xs i u rest (by simpa using h)
    simp only [List.set_cons_succ, List.flatMap_cons, List.append_assoc]
    have e1 : (i + 1) * k = (E y).length + i * k := by rw [hE, Nat.add_mul]; omega
    have e2 : (i + 1) * k + k = (E y).length + (i * k + k) := by rw [e1]; omega
    rw [e2, e1, List.take_length_add_append, List.drop_length_add_append]
    simp only [List.append_assoc] at ih ⊢
    rw [ih]
end

end Go.E
