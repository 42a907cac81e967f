/-
  THE ENGINE, 10: the arguments that a row hands over, told as the contracts want them.
-/
import Derived.Test.YtbolefkhmfbnlaaEng9
import Derived.ProofKit
namespace Go.E
open Go.RowKit

def mW (W : World) : Mu := fun b => W.heap[b]?
theorem sat_mW (W : World) : Sat (mW W) W := fun _ _ h => h

section
variable {H : Type} (enc : TypeId × Value → H) (P : Program) (W : World) (sp : Nat → Bool)

/-- The cells are seen at a type. -/
def Se (t : TypeId) (cs : List Value) : Prop := ∃ fuel x, DataW.trod enc P W 0 sp true fuel t cs = some x

variable {enc P W sp} {t e : TypeId} {cs : List Value}

theorem Se.int {k : IntKind} (ht : P.underlying t = some (.int k)) (h : Se enc P W sp t cs) : ∃ n, cs = [.int k n] ∧ (Lit.int k n).wf = true := by
  obtain ⟨fuel, x, h⟩ := h
  obtain ⟨m, h1, _, h3⟩ := DataW.trod_int ht h
  exact ⟨m, h1, h3⟩

theorem Se.bool (ht : P.underlying t = some .bool) (h : Se enc P W sp t cs) : ∃ b, cs = [.bool b] := by
  obtain ⟨fuel, x, h⟩ := h
  cases fuel with
  | zero => simp [DataW.trod] at h
  | succ n =>
    unfold DataW.trod at h
    rw [ht] at h
    split at h <;> simp_all

theorem mapM_all {α β : Type} {f : α → Option β} : ∀ {l : List α} {r : List β}, l.mapM f = some r → ∀ a ∈ l, ∃ b, f a = some b
  | [], _, _, a, ha => by cases ha
  | x :: l, r, h, a, ha => by
    simp only [List.mapM_cons, Option.bind_eq_bind, Option.bind_eq_some_iff] at h
    obtain ⟨b, hb, bs, hbs, _⟩ := h
    rcases List.mem_cons.1 ha with rfl | ha
    · exact ⟨b, hb⟩
    · exact mapM_all hbs a ha

theorem Se.struct {fs : Array Field} (ht : P.underlying t = some (.struct fs)) (h : Se enc P W sp t cs) : cs.length = P.cellsOf t ∧ ∀ f ∈ fs.toList, Se enc P W sp f.type ((cs.drop f.offset).take (P.cellsOf f.type)) := by
  obtain ⟨fuel, x, h⟩ := h
  cases fuel with
  | zero => simp [DataW.trod] at h
  | succ n =>
    unfold DataW.trod at h
    rw [ht] at h
    simp only at h
    split at h
    · rename_i hl
      obtain ⟨xs, hxs, _⟩ := Option.map_eq_some_iff.1 h
      refine ⟨hl, fun f hf => ?_⟩
      obtain ⟨b, hb⟩ := mapM_all hxs f hf
      exact ⟨n, b, hb⟩
    · cases h

theorem Se.array {q : Nat} (ht : P.underlying t = some (.array q e)) (h : Se enc P W sp t cs) : cs.length = P.cellsOf t ∧ ∀ i, i < q → Se enc P W sp e ((cs.drop (i * P.cellsOf e)).take (P.cellsOf e)) := by
  obtain ⟨fuel, x, h⟩ := h
  cases fuel with
  | zero => simp [DataW.trod] at h
  | succ n =>
    unfold DataW.trod at h
    rw [ht] at h
    simp only at h
    split at h
    · rename_i hl
      obtain ⟨xs, hxs, _⟩ := Option.map_eq_some_iff.1 h
      refine ⟨hl, fun i hi => ?_⟩
      obtain ⟨b, hb⟩ := mapM_all hxs i (List.mem_range.2 hi)
      exact ⟨n, b, hb⟩
    · cases h

theorem cell_block {w : World} {a : Addr} {v : Value} (h : w.cell? a = some v) : ∃ cells T fr, w.heap[a.block]? = some (.cells cells T fr) ∧ a.spot = none ∧ cells[a.off]? = some v := by
  unfold World.cell? at h
  split at h
  · rename_i c T fr hb
    split at h
    · cases h
    · rename_i hs
      exact ⟨c, T, fr, hb, by simpa using hs, h⟩
  · cases h

theorem list_choose {α : Type} {Q : Nat → α → Prop} : ∀ n : Nat, (∀ i, i < n → ∃ y, Q i y) → ∃ xs : List α, xs.length = n ∧ ∀ i y, xs[i]? = some y → Q i y
  | 0, _ => ⟨[], rfl, fun i y h => by simp at h⟩
  | n + 1, h => by
    obtain ⟨xs, h1, h2⟩ := list_choose n (fun i hi => h i (by omega))
    obtain ⟨y, hy⟩ := h n (by omega)
    refine ⟨xs ++ [y], by simp [h1], fun i z hz => ?_⟩
    by_cases hi : i < n
    · rw [List.getElem?_append_left (by omega)] at hz
      exact h2 i z hz
    · have hlt := (List.getElem?_eq_some_iff.1 hz).1
      simp at hlt
      obtain rfl : i = n := by omega
      rw [List.getElem?_append_right (by omega)] at hz
      simp [h1] at hz
      subst hz
      exact hy

theorem Se.slice {α : Type} {El : Mu → List Value → α → Prop} {k : Nat} {Pr : α → Prop} (ht : P.underlying t = some (.slice e)) (hk : P.cellsOf e = k) (hk0 : 0 < k)
    (hel : ∀ cs', Se enc P W sp e cs' → cs'.length = k → ∃ y, El (mW W) cs' y ∧ Pr y) (h : Se enc P W sp t cs) : ∃ ao q c xs, cs = [.slice ao q c] ∧ SlR El k (mW W) (.slice ao q c) xs ∧ ∀ x ∈ xs, Pr x := by
  obtain ⟨fuel, x, h⟩ := h
  rcases DataW.trod_slice ht h with ⟨h1, _⟩ | ⟨a, len, cap, elems, rest, n, _, h1, _, _, h3, h4, h5, h6, _, _⟩
  · exact ⟨none, 0, 0, [], h1, SlR_nil, fun _ hx => by cases hx⟩
  · have each : ∀ i, i < len → ∃ y, ((∃ cells T fr cs', a.spot = none ∧ W.heap[a.block]? = some (.cells cells T fr) ∧ cs'.length = k ∧ (∀ (j : Nat) u, cs'[j]? = some u → cells[a.off + i * k + j]? = some u) ∧ El (mW W) cs' y) ∧ Pr y) := by
      intro i hi
      have hb := h6 i hi
      rw [hk] at hb
      have hsome : ∃ z, elems[i]? = some z := ⟨_, List.getElem?_eq_getElem (by omega)⟩
      obtain ⟨z, hz⟩ := hsome
      rw [hz] at hb
      obtain ⟨cs', hc, hd⟩ := Option.bind_eq_some_iff.1 hb
      obtain ⟨_, hl, hcells⟩ := World.cells?_some hc
      obtain ⟨y, hy, hp⟩ := hel cs' ⟨n, z, hd⟩ hl
      have hread : ∀ (j : Nat), j < k → W.cell? ((a.add (i * k)).add j) = cs'[j]? := fun j hj => by
        have := hcells j (by omega)
        rw [this]
      have hk1 : ∃ u, cs'[0]? = some u := ⟨_, List.getElem?_eq_getElem (by omega)⟩
      obtain ⟨u0, hu0⟩ := hk1
      have h0 := hread 0 hk0
      rw [hu0] at h0
      obtain ⟨cells, T, fr, hblk, hspot, hcell⟩ := cell_block h0
      have hsp0 : a.spot = none := by
        have hb0 := h6 0 (by omega)
        rw [hk, Nat.zero_mul] at hb0
        rw [List.getElem?_eq_getElem (by omega)] at hb0
        obtain ⟨cs0, hc0, _⟩ := Option.bind_eq_some_iff.1 hb0
        obtain ⟨_, hl0, hcells0⟩ := World.cells?_some hc0
        have hr := hcells0 0 hk0
        rw [List.getElem?_eq_getElem (by omega)] at hr
        obtain ⟨_, _, _, _, hs0, _⟩ := cell_block hr
        have e0 : ∀ a : Addr, a.add 0 = a := fun a => by unfold Addr.add; rw [if_pos rfl]
        rw [e0, e0] at hs0
        exact hs0
      refine ⟨y, ⟨cells, T, fr, cs', hsp0, ?_, hl, fun j u hu => ?_, hy⟩, hp⟩
      · rw [Addr.add_none hsp0, Addr.add_none rfl] at hblk
        exact hblk
      · have hj : j < k := by rw [← hl]; exact (List.getElem?_eq_some_iff.1 hu).1
        have h1 := hread j hj
        rw [hu] at h1
        obtain ⟨cells2, T2, fr2, hblk2, _, hcell2⟩ := cell_block h1
        rw [Addr.add_none hsp0, Addr.add_none rfl] at hblk hblk2 hcell2
        simp only at hblk hblk2 hcell2
        rw [hblk] at hblk2
        cases hblk2
        exact hcell2
    obtain ⟨xs, hl, hxs⟩ := list_choose len each
    refine ⟨some a, len, cap, xs, h1, ⟨some a, cap, by rw [hl], by omega, h4, (fun hh => by cases hh), fun i x hx => ?_⟩, fun x hx => ?_⟩
    · obtain ⟨⟨cells, T, fr, cs', q1, q2, q3, q4, q5⟩, _⟩ := hxs i x hx
      exact ⟨a, cells, T, fr, cs', rfl, q1, q2, q3, q4, q5⟩
    · obtain ⟨i, hi⟩ := List.getElem?_of_mem hx
      exact (hxs i x hi).2

theorem Se.of_trod {v : Value} {d : DataW H} {p : List MemPlace} (h : DataW.Trod enc P W 0 sp true t v d p) : Se enc P W sp t v.cells.toList := by
  obtain ⟨fuel, h⟩ := h
  exact ⟨fuel, _, h⟩


theorem trodVars_none' {H : Type} {enc : TypeId × Value → H} {P : Program} {W : World} {sp : Nat → Bool} {gs : List (DataW H)} {ps : List MemPlace} (h : DataW.TrodVars enc P W sp [] gs ps) : gs = [] ∧ ps = [] := by
  cases gs <;> simp_all [DataW.TrodVars]

theorem trodAll_below {H : Type} {enc : TypeId × Value → H} {P : Program} (hl : laidOutB P = true) {W W' : World} (hb : Below W.heap.size W W') : ∀ {ts : List TypeId} {vs : List Value} {ds : List (DataW H)} {ps : List MemPlace},
    (∀ t ∈ ts, P.readableRec t = true ∧ t < P.types.size) → DataW.TrodAll enc P W 0 (fun _ => true) true ts vs ds ps → (∀ x ∈ ps, x.block < W.heap.size) → DataW.TrodAll enc P W' 0 (fun b => decide (b < W.heap.size)) true ts vs ds ps
  | [], [], [], _, _, h, _ => h
  | t :: ts, v :: vs, d :: ds, ps, hr, h, hlt => by
    obtain ⟨p, q, h1, h2, rfl⟩ := h
    exact ⟨p, q, Below.trod hl (hr t (by simp)).1 (hr t (by simp)).2 h1 hb (fun x hx => hlt x (List.mem_append_left _ hx)), trodAll_below hl hb (fun u hu => hr u (by simp [hu])) h2 (fun x hx => hlt x (List.mem_append_right _ hx)), rfl⟩
  | [], [], _ :: _, _, _, h, _ => h.elim
  | [], _ :: _, _, _, _, h, _ => h.elim
  | _ :: _, [], _, _, _, h, _ => h.elim
  | _ :: _, _ :: _, [], _, _, h, _ => h.elim

/-- A row that says: true, and the arguments read as they did. -/
theorem post_true {H : Type} {enc : TypeId × Value → H} {P : Program} {fn : Func} {s : ChangeSpec} {W W' : World} {args : Array Value} {ds : List (DataW H)} {before : List MemPlace} {tb : TypeId} (hl : laidOutB P = true)
    (hW : DataW.Whole enc P fn.params.toList s.vars false W args.toList ds [] before) (hrt : fn.resultTypes = #[tb]) (htb : P.underlying tb = some .bool)
    (hpr : ∀ t ∈ fn.params.toList, P.readableRec t = true ∧ t < P.types.size) (hr : (s.fn H (ds ++ [])).results = [.lit (.bool true)]) (ha : (s.fn H (ds ++ [])).args = ds) (hv : s.vars = []) (hv2 : (s.fn H (ds ++ [])).vars = [])
    (hb : Below W.heap.size W W') : s.post enc P fn false true false false W args (.bool true) W' := by
  have hlt : ∀ x ∈ before, x.block < W.heap.size := fun x hx => hW.lt x hx
  have hW' := hW
  obtain ⟨p, q, h1, h2, rfl, _, _⟩ := hW'
  rw [hv] at h2
  obtain ⟨_, rfl⟩ := trodVars_none' h2
  refine ⟨ds, [], p ++ [], [], p, [], hW, ?_, ?_, ?_, hb.frame _, fun h => by cases h⟩
  · rw [hr, hrt]
    exact Go.ChangeShapes.trodAll_mk1 (shut_bool htb true)
  · rw [ha]
    exact trodAll_below hl hb hpr h1 (fun x hx => hlt x (by simpa using hx))
  · rw [hv, hv2]
    rfl

end
end Go.E
