/-
  THE ENGINE, 14: the rule for a range over a function; iterators; the way out behind a loop's mark.
-/
import Derived.Test.YtbolefkhmfbnlaaEng13
namespace Go.E
open Go.RowKit

def addM (m : Mu) (b : Nat) (o : Obj) : Mu := fun c => if c = b then some o else m c
theorem addM_self (m : Mu) (b : Nat) (o : Obj) : addM m b o b = some o := if_pos rfl
theorem addM_ne {m : Mu} {b c : Nat} {o : Obj} (h : c ≠ b) : addM m b o c = m c := if_neg h
theorem le_addM {m : Mu} {b : Nat} (o : Obj) (h : m b = none) : Le m (addM m b o) := fun c ob hc => by
  rw [addM_ne (fun he => by rw [he, h] at hc; cases hc)]; exact hc

section
variable {w0 w : World} {m0 m : Mu} {Ls : List (List Ent)} {b : Nat} {o o' : Obj}

theorem St.know (h : St w0 m0 m Ls w) (hb : w.heap[b]? = some o) (hB : w0.heap.size ≤ b) (hm : m b = none) (hn : o.isCells = false) : St w0 m0 (addM m b o) Ls w := by
  refine ⟨h.below, h.le.trans (le_addM o hm), fun c hc => ?_, fun c ob hc => ?_, ⟨fun x hx => ?_, h.own.nd⟩⟩
  · by_cases he : c = b
    · exact .inr (he ▸ hB)
    · rw [addM_ne he] at hc; exact h.new c hc
  · by_cases he : c = b
    · rw [he, addM_self] at hc; rw [he, hb, ← Option.some.inj hc]
    · rw [addM_ne he] at hc; exact h.sat c ob hc
  · obtain ⟨h1, h2, h3⟩ := h.own.at_ x hx
    refine ⟨h1, h2, ?_⟩
    rw [addM_ne (fun he => by rw [he, hb] at h1; have := Option.some.inj h1; subst this; cases hn)]
    exact h3

theorem St.turn (h : St w0 m0 (addM m b o) Ls w) (hm : m b = none) (hB : w0.heap.size ≤ b) (hl : Le m0 m) : St w0 m0 (addM m b o') Ls (w.putObj b o') := by
  have hb := h.sat b o (addM_self m b o)
  have hlt := (Array.getElem?_eq_some_iff.1 hb).1
  refine ⟨h.below.trans ⟨rfl, rfl, rfl, by simp, fun k hk => World.putObj_heap_other (by omega)⟩, hl.trans (le_addM o' hm), fun c hc => ?_, fun c ob hc => ?_, ⟨fun x hx => ?_, h.own.nd⟩⟩
  · by_cases he : c = b
    · exact .inr (he ▸ hB)
    · rw [addM_ne he] at hc
      exact h.new c (by rw [addM_ne he]; exact hc)
  · by_cases he : c = b
    · rw [he, addM_self] at hc
      rw [he, World.putObj_heap_same hlt, ← Option.some.inj hc]
    · rw [addM_ne he] at hc
      rw [World.putObj_heap_other he]
      exact h.sat c ob (by rw [addM_ne he]; exact hc)
  · obtain ⟨h1, h2, h3⟩ := h.own.at_ x hx
    have hne : x.b ≠ b := fun he => by rw [he, addM_self] at h3; cases h3
    refine ⟨by rw [World.putObj_heap_other hne]; exact h1, h2, ?_⟩
    rw [addM_ne hne] at h3 ⊢; exact h3

theorem St.forget (h : St w0 m0 (addM m b o) Ls w) (hm : m b = none) (hl : Le m0 m) : St w0 m0 m Ls w := by
  refine ⟨h.below, hl, fun c hc => ?_, h.sat.le (le_addM o hm), ⟨fun x hx => ?_, h.own.nd⟩⟩
  · refine h.new c ?_
    by_cases he : c = b
    · rw [he, addM_self]; simp
    · rw [addM_ne he]; exact hc
  · obtain ⟨h1, h2, h3⟩ := h.own.at_ x hx
    have hne : x.b ≠ b := fun he => by rw [he, addM_self] at h3; cases h3
    rw [addM_ne hne] at h3
    exact ⟨h1, h2, h3⟩

theorem St.other (h : St w0 m0 m Ls w) (hb : w.heap[b]? = some o) (hB : w0.heap.size ≤ b) (hm : m b = none) (hn : o.isCells = false) : St w0 m0 m Ls (w.putObj b o') :=
  ((h.know hb hB hm hn).turn hm hB h.le).forget hm h.le
end

/-! ### What an iterator promises -/

def Iter {α : Type} (P : Program) (gf : FuncId) (lb : List Value) (m : Mu) (Ev : α → Value → Prop) (xs : List α) : Prop :=
  ∀ (l : Nat) (J : Nat → World → Prop) (W : World), Sat m W → (∀ i w w', J i w → Ext w w' → J i w') →
    (∀ (i : Nat) (x : α) (v : Value) (w : World), xs[i]? = some x → Ev x v → J i w → Sat m w → YieldAt Fence.wide 0 P l #[v] w (fun e w' => e = .returned (.bool true) ∧ J (i + 1) w' ∧ Sat m w')) → J 0 W →
    Calls P gf (Value.func (.yield l) #[] #[] :: lb).toArray W (fun e w' => (∃ v, e = .returned v) ∧ J xs.length w')

theorem foldS_append {α S : Type} {step : S → α → Option S} : ∀ (l l' : List α) (s : S), foldS step s (l ++ l') = (foldS step s l).bind fun s' => foldS step s' l'
  | [], l', s => rfl
  | x :: l, l', s => by
    simp only [List.cons_append, foldS]
    cases step s x with
    | none => rfl
    | some s' => exact foldS_append l l' s'

theorem foldS_next {α S : Type} {step : S → α → Option S} {xs : List α} {s0 s1 s : S} (h : foldS step s0 xs = some s1) {i : Nat} {x : α} (hx : xs[i]? = some x) (hs : foldS step s0 (xs.take i) = some s) :
    ∃ s', step s x = some s' ∧ foldS step s0 (xs.take (i + 1)) = some s' := by
  obtain ⟨hi, hxi⟩ := List.getElem?_eq_some_iff.1 hx
  have e : xs = xs.take i ++ x :: xs.drop (i + 1) := by
    rw [← hxi, List.getElem_cons_drop, List.take_append_drop]
  rw [e, foldS_append, hs, Option.bind_some] at h
  simp only [foldS] at h
  obtain ⟨s', h1, _⟩ := Option.bind_eq_some_iff.1 h
  refine ⟨s', h1, ?_⟩
  rw [List.take_add_one, hx, foldS_append, hs, Option.bind_some]
  simp only [Option.toList, foldS, h1, Option.bind_some]

def mk (D : Nat) : Deferred := { target := .collected D, args := #[] }

/-- A RANGE OVER A FUNCTION, with one loop variable, whose body always comes to its end. -/
theorem WK_range {P : Program} {n : Nat} {R : Act → World → Prop} {k : List KI} {e : Env} {w0 : World} {m0 m : Mu} {α S G : Type} {g : Operand} {p : Tmp} {assign body : Code} {gf : FuncId} {lb : List Value}
    (xs : List α) (Ev : α → Value → Prop) (step : S → α → Option S) (Lf : S → G → List (List Ent)) (good : S → G → Prop) (e1 : Value → Env)
    (hg : ev e g = some (.func (.func gf) #[] lb.toArray)) (hcal : Callable P gf) (hp : Nat.blt p n = true) (hit : Iter P gf lb m Ev xs) (s0 : S) (g0 : G) (s1 : S) (hx : foldS step s0 xs = some s1) (h0 : good s0 g0)
    (hrest : ∀ (D : Nat) (m2 : Mu) (gg : G), w0.heap.size ≤ D → m D = none → Le m m2 → m2 D = some (.deferred (some [])) → good s1 gg → WKx none [mk D] P n R k e (St w0 m0 m2 (Lf s1 gg)))
    (hround : ∀ (l : Nat) (x : α) (v : Value) (s s' : S) (gg : G), x ∈ xs → Ev x v → step s x = some s' → good s gg →
      (∀ (mb : Mu) (Ra : Act → World → Prop), Le m mb → WKx (some l) [] P n Ra [] (e1 v) (St w0 m0 mb (Lf s gg)) → WKx (some l) [] P n Ra [.code assign] ((p, v) :: e) (St w0 m0 mb (Lf s gg))) ∧
      (∀ (mb : Mu) (Rb : Act → World → Prop), Le m mb → (∀ g', good s' g' → WKx (some l) [] P n Rb [] [] (St w0 m0 mb (Lf s' g'))) → WKx (some l) [] P n Rb [.code body] (e1 v) (St w0 m0 mb (Lf s gg)))) :
    WK P n R (.code (.rangeFunc g #[p] assign body) :: k) e (St w0 m0 m (Lf s0 g0)) := by
  intro a w ha hw
  refine (wpIn_wide (n := 0)).1 (wpIn_rangeFunc ?_)
  intro fn _
  obtain ⟨rec, hrec⟩ : ∃ rec : LoopState → Option Code → Loop, rec = fun st pe => { state := st, pending := pe, fn, tmps := a.tmps, params := #[p], assign, body, defers := w.heap.size } := ⟨_, rfl⟩
  obtain ⟨W1, hW1⟩ : ∃ W1, (w.alloc (.deferred (some []))).alloc (.loop (rec .ready none)) = W1 := ⟨_, rfl⟩
  have hL1 : W1.heap[w.heap.size + 1]? = some (.loop (rec .ready none)) := by
    rw [← hW1]; have := World.alloc_heap_new (w.alloc (.deferred (some []))) (.loop (rec .ready none)); rwa [World.size_alloc] at this
  have hK1 : W1.heap[w.heap.size]? = some (.deferred (some [])) := by
    rw [← hW1]; exact (Below.heap_alloc _ _ _ (by simp)).trans (World.alloc_heap_new w _)
  have hst1 : St w0 m0 m (Lf s0 g0) W1 := by
    rw [← hW1]; exact (hw.ext (Ext.alloc _ _)).ext (Ext.alloc _ _)
  have hB : w0.heap.size ≤ w.heap.size := hw.below.size
  have hmn : ∀ b, w.heap.size ≤ b → m b = none := fun b hb => by
    cases hm : m b with
    | none => rfl
    | some ob => exact absurd (hw.sat.lt (b := b) (by simp [hm])) (by omega)
  obtain ⟨mD, hmD⟩ : ∃ mD, addM m w.heap.size (.deferred (some [])) = mD := ⟨_, rfl⟩
  have hstD : St w0 m0 mD (Lf s0 g0) W1 := by rw [← hmD]; exact hst1.know hK1 hB (hmn _ (Nat.le_refl _)) rfl
  have hleD : Le m mD := by rw [← hmD]; exact le_addM _ (hmn _ (Nat.le_refl _))
  have hmDl : mD (w.heap.size + 1) = none := by rw [← hmD, addM_ne (by omega)]; exact hmn _ (by omega)
  have hmDD : mD w.heap.size = some (.deferred (some [])) := by rw [← hmD]; exact addM_self _ _ _
  have hle0D : Le m0 mD := hw.le.trans hleD
  refine ⟨w.heap.size + 1, [mk w.heap.size], W1, { target := .fn (.func gf) lb.toArray, args := #[.func (.yield (w.heap.size + 1)) #[] #[]] }, W1, gf,
    #[.func (.yield (w.heap.size + 1)) #[] #[]] ++ lb.toArray, W1, ?_, ?_, ?_, ?_, fun h => (by cases h), ?_⟩
  · rw [← hW1, hrec]; exact run_enterLoop_outer _ _ _ _ _
  · simp only [resolve, ha.ev hg]
    simp [go_sem]
  · intro f' hf'; trivial
  · have := hcal (#[.func (.yield (w.heap.size + 1)) #[] #[]] ++ lb.toArray) W1
    simpa [invoke, go_sem] using this
  · have key := hit (w.heap.size + 1) (fun i W => i ≤ xs.length ∧ ∃ s gg, foldS step s0 (xs.take i) = some s ∧ good s gg ∧ St w0 m0 mD (Lf s gg) W ∧ W.heap[w.heap.size + 1]? = some (.loop (rec .ready none)))
      W1 hst1.sat ?_ ?_ ⟨Nat.zero_le _, s0, g0, rfl, h0, hstD, hL1⟩
    · refine callsIn_wide.2 ?_
      have e' : (#[.func (.yield (w.heap.size + 1)) #[] #[]] ++ lb.toArray : Array Value) = (Value.func (.yield (w.heap.size + 1)) #[] #[] :: lb).toArray := by simp
      rw [e']
      refine key.mono ?_
      rintro e2 W2 ⟨⟨v, rfl⟩, _, s, gg, hf, hgd, hst, hl⟩
      rw [List.take_length, hx] at hf
      obtain rfl := Option.some.inj hf
      refine ⟨none, _, by have := run_endLoop (P := P) hl (by rw [hrec]; simp); rw [hrec] at this; exact this, ?_⟩
      have hfin := hrest w.heap.size mD gg hB (hmn _ (Nat.le_refl _)) hleD hmDD hgd a _ ha (hst.other (o' := .loop { rec .ready none with state := .exhausted }) hl (by omega) hmDl rfl)
      have := wpKx_none k .normal _ _ hfin
      have e3 : sh [mk w.heap.size] a = { a with defers := [mk w.heap.size] ++ a.defers } := by simp [sh, ha.df]
      rw [e3, hrec] at this
      exact this
    · rintro i W W' ⟨hi, s, gg, hf, hgd, hst, hl⟩ hext
      exact ⟨hi, s, gg, hf, hgd, hst.ext hext, (Below.block hext _ (Array.getElem?_eq_some_iff.1 hl).1).trans hl⟩
    · rintro i x v W hxi hev ⟨hi, s, gg, hf, hgd, hst, hl⟩ _
      obtain ⟨s', hs', hf'⟩ := foldS_next hx hxi hf
      have hilt := (List.getElem?_eq_some_iff.1 hxi).1
      obtain ⟨hA, hBd⟩ := hround (w.heap.size + 1) x v s s' gg (List.mem_of_getElem? hxi) hev hs' hgd
      have hy := run_yield (P := P) (args := #[v]) hl (by rw [hrec]; rfl)
      rw [hrec] at hy
      have et : ((#[p] : Array Tmp).zip #[v]).foldl (fun tmps (t, a) => tmps.setIfInBounds t a) a.tmps = a.tmps.setIfInBounds p v := by simp
      have hy : (Instr.yield (w.heap.size + 1) #[v]).run P W = .ok (.round (w.heap.size + 1) fn (a.tmps.setIfInBounds p v) assign body) W := by rw [← et]; exact hy
      refine ⟨fn, _, assign, body, hy, roundIn_of_wpIn trivial ?_⟩
      have hag : Ag ⟨a.tmps.setIfInBounds p v, []⟩ n ((p, v) :: e) := by
        have h5 := ha.put (d := some p) (by simpa [dstOk] using hp) v
        exact ⟨rfl, h5.sz, h5.fit⟩
      have hltW : w.heap.size + 1 < W.heap.size := (Array.getElem?_eq_some_iff.1 hl).1
      have h1 := hA (addM mD (w.heap.size + 1) (.loop (rec .ready none))) (fun a₁ w₁ => ∃ w₂, (Instr.beginRound (w.heap.size + 1)).run P w₁ = .ok () w₂ ∧ body.wpIn (Fence.wide.inRound (w.heap.size + 1)) 0 P (roundPost P (w.heap.size + 1) (fun e w' => e = .returned (.bool true) ∧ (i + 1 ≤ xs.length ∧ ∃ s gg, foldS step s0 (xs.take (i + 1)) = some s ∧ good s gg ∧ St w0 m0 mD (Lf s gg) w' ∧ w'.heap[w.heap.size + 1]? = some (.loop (rec .ready none))) ∧ Sat m w')) a₁ w₂)
        (hleD.trans (le_addM _ hmDl)) ?_ ⟨a.tmps.setIfInBounds p v, []⟩ W hag (hst.know hl (by omega) hmDl rfl)
      · refine wpIn_mono (show assign.wpIn (Fence.wide.inRound (w.heap.size + 1)) 0 P (wpKx (some (w.heap.size + 1)) P _ []) ⟨a.tmps.setIfInBounds p v, []⟩ W from h1) ?_
        intro e4 a4 w4 hq
        cases e4 <;> exact hq
      · intro a1 w1 ha1 hw1
        rw [sh_nil]
        have hl1 := hw1.sat _ _ (addM_self mD (w.heap.size + 1) (.loop (rec .ready none)))
        refine ⟨_, run_beginRound hl1 (by rw [hrec]), ?_⟩
        have hb := hBd (addM mD (w.heap.size + 1) (.loop { rec .ready none with state := .busy })) (fun _ w₃ => ∃ v w', (Instr.endRound (w.heap.size + 1) none).run P w₃ = .ok v w' ∧ (fun (e : Ending) (w' : World) => e = .returned (.bool true) ∧ (i + 1 ≤ xs.length ∧ ∃ s gg, foldS step s0 (xs.take (i + 1)) = some s ∧ good s gg ∧ St w0 m0 mD (Lf s gg) w' ∧ w'.heap[w.heap.size + 1]? = some (.loop (rec .ready none))) ∧ Sat m w') (.returned v) w')
          (hleD.trans (le_addM _ hmDl)) ?_ a1 _ ha1 (hw1.turn hmDl (by omega) hle0D)
        · rw [sh_nil] at hb
          refine wpIn_mono hb ?_
          intro e5 a5 w5 hq
          cases e5 with
          | normal => exact hq
          | ret => exact hq.elim
          | exit _ => exact hq.elim
          | goto _ => exact hq.elim
          | panic _ => exact hq.elim
          | outgrown => exact hq.elim
        · intro g' hgd' a3 w3 _ hw3
          have hl3 := hw3.sat _ _ (addM_self mD (w.heap.size + 1) (.loop { rec .ready none with state := .busy }))
          refine ⟨_, _, run_endRound none hl3, rfl, ?_⟩
          have hw4 := hw3.turn (o' := .loop (rec .ready none)) hmDl (by omega) hle0D
          have e6 : ({ { rec .ready none with state := .busy } with state := (if (none : Option Code).isNone = true then .ready else .done), pending := none } : Loop) = rec .ready none := by rw [hrec]; rfl
          rw [e6]
          exact ⟨⟨by omega, s', g', hf', hgd', hw4.forget hmDl hle0D, hw4.sat _ _ (addM_self _ _ _)⟩, hw4.sat.le (hleD.trans (le_addM _ hmDl))⟩

/-! ### The way out behind a mark -/

def RetM (P : Program) (fn : Func) (w0 : World) (m0 : Mu) (Rr : Value → Mu → List Ent → Prop) (a : Act) (w : World) : Prop :=
  Ret P fn w0 m0 Rr a w ∨ ∃ D, a.defers = [mk D] ∧ w.heap[D]? = some (.deferred (some [])) ∧
    ∃ v m' L, (results fn a.tmps).run P (w.putObj D (.deferred none)) = .ok v (w.putObj D (.deferred none)) ∧ Below w0.heap.size w0 (w.putObj D (.deferred none)) ∧ Le m0 m' ∧ NewOnly w0.heap.size m0 m' ∧ Sat m' (w.putObj D (.deferred none)) ∧ OwnL m' w0.heap.size L (w.putObj D (.deferred none)) ∧ Rr v m' L

theorem Spec_enterM {P : Program} {f : FuncId} {fn : Func} {c : Code} {n : Nat} {args : List Value} {m : Mu} {Rr : Value → Mu → List Ent → Prop} (hf : P.funcs[f]? = some fn) (hb : fn.body = some c) (hn : fn.ntmps = n)
    (hlen : Nat.ble args.length n = true) (h : ∀ w0, WK P n (RetM P fn w0 m Rr) [.code c] (argE 0 args) (St w0 m m [])) : Spec P f args m Rr := by
  intro w hw
  have hlen' : args.length ≤ n := Nat.le_of_ble_eq_true hlen
  refine callsIn_wide.1 (callsIn_of_wp_marks (F := Fence.wide) (n := 0) hf hb trivial ?_ rfl)
  have hag : Ag { tmps := args.toArray ++ Array.replicate (fn.ntmps - args.toArray.size) undef, defers := [] } n (argE 0 args) := by
    refine ⟨rfl, by simp [hn]; omega, fun i v hv => ?_⟩
    obtain ⟨k, hk, hv'⟩ := argE_ok args 0 i v hv
    have hki : i = k := by omega
    subst hki
    have hlt : i < args.length := (List.getElem?_eq_some_iff.1 hv').1
    rw [Array.getElem?_append_left (by simpa using hlt)]
    simpa using hv'
  refine wpIn_wide.2 (wp_mono (h w _ w hag (St.start w hw)) ?_)
  have fin : ∀ a' w', RetM P fn w m Rr a' w' → LeavesInM Fence.wide 0 P fn a'.tmps (fun e w' => ∃ v m' L, e = .returned v ∧ Ext w w' ∧ Le m m' ∧ NewOnly w.heap.size m m' ∧ Sat m' w' ∧ OwnL m' w.heap.size L w' ∧ Rr v m' L) a'.defers .returning w' := by
    rintro a' w' (⟨hd, v, m', L, h1, h2, h3, h4, h5, h6, h7⟩ | ⟨D, hd, hD, v, m', L, h1, h2, h3, h4, h5, h6, h7⟩)
    · rw [hd]
      exact ⟨v, h1, v, m', L, rfl, h2, h3, h4, h5, h6, h7⟩
    · rw [hd]
      exact ⟨by simp, .inl ⟨D, _, rfl, run_takeDeferred hD, v, h1, v, m', L, rfl, h2, h3, h4, h5, h6, h7⟩⟩
  intro ex a' w' hq
  cases ex with
  | normal => exact fin a' w' hq
  | ret => exact fin a' w' hq
  | exit id => exact hq.elim
  | goto l => exact hq.elim
  | panic c => exact hq.elim
  | outgrown => exact hq.elim

section
variable {P : Program} {n : Nat} {e : Env} {w0 : World} {m0 m : Mu} {Ls : List (List Ent)}

theorem ret_out0 {fn : Func} {Rr : Value → Mu → List Ent → Prop} {vs : List Value} {L : List Ent} (hr : RLc P n e (St w0 m0 m Ls) fn.results.toList vs) (hL : L.Sublist Ls.flatten) (hR : Rr (tup vs) m L) :
    ∀ a w, Ag a n e → St w0 m0 m Ls w → RetM P fn w0 m0 Rr a w := fun a w ha hw => .inl (ret_out hr hL hR a w ha hw)

theorem ret_outM {D : Nat} (hD : w0.heap.size ≤ D) (hm : m D = some (.deferred (some []))) (hm0 : m0 D = none) {fn : Func} {Rr : Value → Mu → List Ent → Prop} {vs : List Value} {L : List Ent} (hr : ∀ m', RLc P n e (St w0 m0 m' Ls) fn.results.toList vs) (hL : L.Sublist Ls.flatten) (hR : ∀ m', Rr (tup vs) m' L) :
    ∀ a w, Ag a n e → St w0 m0 m Ls w → RetM P fn w0 m0 Rr (sh [mk D] a) w := fun a w ha hw => by
  obtain ⟨mX, hmX⟩ : ∃ mX : Mu, (fun c => if c = D then none else m c) = mX := ⟨_, rfl⟩
  have hXD : mX D = none := by rw [← hmX]; simp
  have hXc : ∀ c, c ≠ D → mX c = m c := fun c hc => by rw [← hmX]; simp [hc]
  have hb := hw.sat D _ hm
  have hle : Le m0 mX := fun c ob hc => by
    rw [hXc c (fun he => by rw [he, hm0] at hc; cases hc)]; exact hw.le c ob hc
  have hst : St w0 m0 mX Ls w := by
    refine ⟨hw.below, hle, fun c hc => ?_, fun c ob hc => ?_, ⟨fun x hx => ?_, hw.own.nd⟩⟩
    · by_cases he : c = D
      · exact .inr (he ▸ hD)
      · rw [hXc c he] at hc; exact hw.new c hc
    · by_cases he : c = D
      · rw [he, hXD] at hc; cases hc
      · rw [hXc c he] at hc; exact hw.sat c ob hc
    · obtain ⟨h1, h2, h3⟩ := hw.own.at_ x hx
      have hne : x.b ≠ D := fun he => by rw [he, hm] at h3; cases h3
      exact ⟨h1, h2, by rw [hXc _ hne]; exact h3⟩
  have hst2 := hst.other (o' := .deferred none) hb hD hXD rfl
  refine .inr ⟨D, by simp [sh, ha.df], hb, _, mX, L, results_RL (hr mX a _ ha hst2), hst2.below, hst2.le, hst2.new, hst2.sat, hst2.own.sub hL, hR mX⟩
end

/-! ### An iterator that yields -/

section
variable {P : Program} {n : Nat} {R : Act → World → Prop} {ops : Array Oper} {l : List Oper} {k : List KI} {e : Env} {C : World → Prop}

theorem wpK_outgrown {P : Program} {R : Act → World → Prop} : ∀ (k : List KI) (a : Act) (w : World), ¬ wpK P R k .outgrown a w
  | [], _, _ => fun h => h
  | .code _ :: k, a, w => fun h => wpK_outgrown k a w h
  | .rep _ _ :: k, a, w => fun h => wpK_outgrown k a w h
  | .blk _ :: k, a, w => fun h => wpK_outgrown k a w h

theorem list_at {α : Type} (d : α) : ∀ (j : Nat) (l : List α), j < l.length → l = l.take j ++ l.getD j d :: l.drop (j + 1)
  | _, [], h => by simp at h
  | 0, x :: l, _ => by simp
  | j + 1, x :: l, h => by
    have := list_at d j l (by simpa using h)
    simp only [List.take_succ_cons, List.getD_cons_succ, List.drop_succ_cons, List.cons_append]
    rw [← this]

/-- A call of yield, under way in a region. -/
def YS (P : Program) (R : Act → World → Prop) (k : List KI) (ops : Array Oper) (y : Oper) (l2 : List Oper) (a : Act) (w : World) : Prop :=
  wpListIn Fence.wide 0 P ops (wpK P R k) (y :: l2) a w

theorem WK_yield {id : Nat} {l : List Oper} (j : Nat) (hj : Nat.blt j l.length = true) (hn : (l.take j).all noDef = true)
    (h : WO P n R l.toArray none (l.take j) (YS P R k l.toArray (l.getD j default) (l.drop (j + 1))) k e C) : WK P n R (.code (.region id l.toArray false) :: k) e C := fun a w ha hw => by
  have hl := list_at (default : Oper) j l (by simpa [Nat.blt_eq] using hj)
  generalize l.take j = l1 at *
  generalize l.getD j default = y at *
  generalize l.drop (j + 1) = l2 at *
  refine (wpIn_wide (n := 0)).1 (wpIn_region_lit ?_)
  have h1 : Lx P l.toArray (wpK P R k) none (fun a w => wpListIn (fen none) 0 P l.toArray (wpK P R k) (y :: l2) (sh [] a) w) l1 a w := by
    have e1 : (fun a w => wpListIn (fen none) 0 P l.toArray (wpK P R k) (y :: l2) (sh [] a) w) = YS P R k l.toArray y l2 := by
      funext a w; rw [sh_nil]; rfl
    rw [e1]
    exact h a w ha hw trivial
  have := listIn_of_Lx (ro := none) (ds := []) (Q' := wpK P R k) (wpK_panic k) (wpK_outgrown k) (y :: l2) l1 a w hn h1
  rw [sh_nil, ← hl] at this
  exact this

theorem WO_yields {y : Oper} {l2 : List Oper} {c : Call} {fx : Operand} {lp : Nat} {v : Value} {C2 : World → Prop} (hn : l2.all noDef = true) (hg : gd ops e y = some true) (hd : dstOk n y.dst = true) (hop : y.op = .call c) (hc : c.callee = .value fx)
    (hfx : ev e fx = some (.func (.yield lp) #[] #[])) (ha : evs e c.args.toList = some [v]) (hY : ∀ w, C w → YieldAt Fence.wide 0 P lp #[v] w (fun e w' => e = .returned (.bool true) ∧ C2 w'))
    (h : WO P n R ops none l2 (fun a w => wpK P R k .normal a w) k (setE e y.dst (.bool true)) C2) : WO P n R ops none [] (YS P R k ops y l2) k e C := fun a w hag hw _ => by
  show wpListIn Fence.wide 0 P ops (wpK P R k) (y :: l2) a w
  unfold wpListIn
  rw [if_pos (gd_ok hag hg)]
  refine ⟨fun _ _ => trivial, ?_⟩
  obtain ⟨fn, tmps, assign, body, hy, hR⟩ := hY w hw
  have hargs : c.args.map a.eval = #[v] := by
    have := hag.evs ha
    cases hca : c.args with
    | mk q => rw [hca] at this; simp at this ⊢; exact this
  have hrun : (y.semAt Fence.wide.round a.eval).run P w = .ok (.round lp fn tmps assign body) w := by
    show (execOp a.eval y).run P w = _
    unfold execOp
    simp only [hop, resolve, hc, hag.ev hfx, Deferred.ofValue, hargs, Sem.run_bind, Sem.run_pure, Result.andThen_ok, invoke]
    simpa using hy
  rw [hrun]
  refine ⟨fun h => (by cases h), hR.mono ?_⟩
  rintro e2 w2 ⟨rfl, hC2⟩
  have h2 := h (a.put y.dst (.bool true)) w2 (hag.put hd _) hC2 trivial
  have h3 := listIn_of_Lx (ro := none) (ds := []) (Q' := wpK P R k) (wpK_panic k) (wpK_outgrown k) [] l2 (a.put y.dst (.bool true)) w2 hn (by
    have e1 : (fun a w => wpListIn (fen none) 0 P ops (wpK P R k) [] (sh [] a) w) = (fun a w => wpK P R k .normal a w) := by
      funext a w; rw [sh_nil]; rfl
    rw [e1]; exact h2)
  rw [sh_nil, List.append_nil] at h3
  exact h3
end

/-- The way into an iterator. -/
theorem Calls_enter {P : Program} {f : FuncId} {fn : Func} {c : Code} {n : Nat} {args : List Value} {C Q : World → Prop} {w : World} (hf : P.funcs[f]? = some fn) (hb : fn.body = some c) (hn : fn.ntmps = n)
    (hlen : Nat.ble args.length n = true) (h : WK P n (fun a w => a.defers = [] ∧ (∃ v, (results fn a.tmps).run P w = .ok v w) ∧ Q w) [.code c] (argE 0 args) C) (hw : C w) : Calls P f args.toArray w (fun e w' => (∃ v, e = .returned v) ∧ Q w') := by
  have hlen' : args.length ≤ n := Nat.le_of_ble_eq_true hlen
  refine calls_of_wp hf hb ?_
  have hag : Ag { tmps := args.toArray ++ Array.replicate (fn.ntmps - args.toArray.size) undef, defers := [] } n (argE 0 args) := by
    refine ⟨rfl, by simp [hn]; omega, fun i v hv => ?_⟩
    obtain ⟨k, hk, hv'⟩ := argE_ok args 0 i v hv
    have hki : i = k := by omega
    subst hki
    have hlt : i < args.length := (List.getElem?_eq_some_iff.1 hv').1
    rw [Array.getElem?_append_left (by simpa using hlt)]
    simpa using hv'
  refine wp_mono (h _ w hag hw) (fun ex a' w' hq => ?_)
  cases ex with
  | normal =>
    obtain ⟨hd, ⟨v, h1⟩, h2⟩ := hq
    exact ⟨hd, v, h1, ⟨v, rfl⟩, h2⟩
  | ret =>
    obtain ⟨hd, ⟨v, h1⟩, h2⟩ := hq
    exact ⟨hd, v, h1, ⟨v, rfl⟩, h2⟩
  | exit id => exact hq.elim
  | goto l => exact hq.elim
  | panic c => exact hq.elim
  | outgrown => exact hq.elim

def EvSl {α : Type} (El : Mu → List Value → α → Prop) (k : Nat) (m : Mu) (x : List α) (v : Value) : Prop := ∃ a q c, v = .slice a q c ∧ SlR El k m (.slice a q c) x

theorem chunksOf_get {α : Type} {n : Nat} {xs : List α} {i : Nat} (hn : 0 < n) (hi : i * n < xs.length) : (chunksOf n xs)[i]? = some ((xs.drop (i * n)).take n) := by
  have h : i < (xs.length + n - 1) / n := by
    rw [Nat.lt_div_iff_mul_lt hn]
    have e : n * i = i * n := Nat.mul_comm _ _
    omega
  simp [chunksOf, h]
theorem chunksOf_lt {α : Type} {n : Nat} {xs : List α} {i : Nat} (hn : 0 < n) : i < (chunksOf n xs).length ↔ i * n < xs.length := by
  have e : n * i = i * n := Nat.mul_comm _ _
  simp only [chunksOf, List.length_map, List.length_range]
  rw [Nat.lt_div_iff_mul_lt hn]
  omega

theorem none_le {m0 m : Mu} {D : Nat} (h : Le m0 m) (hD : m D = none) : m0 D = none := by
  cases h0 : m0 D with
  | none => rfl
  | some o => rw [h _ _ h0] at hD; cases hD

theorem loop_count (N : Nat) : ∀ (f i : Nat), i ≤ N → N < i + f → loopM f (fun i : Nat => if i < N then some (Step.next (i + 1)) else some (Step.done ())) i = some ()
  | 0, i, h0, h => by omega
  | f + 1, i, h0, h => by
    simp only [loopM]
    by_cases hi : i < N
    · rw [if_pos hi]; exact loop_count N f (i + 1) (by omega) (by omega)
    · rw [if_neg hi]; rfl

/-! ### An array's element at an open index -/

section
variable {P : Program} {n : Nat} {R : Act → World → Prop} {ops : Array Oper} {md : Option (World → Prop)} {l : List Oper} {tl : Act → World → Prop} {k : List KI} {e : Env} {C : World → Prop} {tb : Tab} {o : Oper}

theorem WO_indexA (htb : TabOk P tb) {T el len : Nat} {ti te : TI} {x i : Operand} {q : IntKind} {z y : Int} (xs : List Int) (hg : gd ops e o = some true) (hd : dstOk n o.dst = true) (hcl : MdCl md) (hop : o.op = .index T x i)
    (hx : ev e x = some (.agg (xs.map (Value.int q)).toArray)) (hi : ev e i = some (.int .i64 z)) (hT : tget tb T = some ti) (hds : ti.desc = .array len el) (hel : tget tb el = some te) (hk : te.size = 1) (hdq : te.desc = .int q)
    (hlen : xs.length = len) (hz : 0 ≤ z ∧ z < (xs.length : Int)) (hy : xs[z.toNat]? = some y)
    (h : WO P n R ops md l tl k (setE e o.dst (.int q y)) C) : WO P n R ops md (o :: l) tl k e C :=
  WO_act (fun _ : Unit => .int q y) (fun _ => C) hg (by rw [hop]; rfl) hd hcl
    (fun a w ha hw => ⟨(), w, by
      have hu := (htb _ _ hT).run_und w
      have hue := (htb _ _ hel).run_und w
      have hs := (htb _ _ hel).run_size w
      rw [hds] at hu
      rw [hdq] at hue
      rw [hk] at hs
      have hagg : (isAgg el).run P w = .ok false w := by
        unfold isAgg
        simp only [Sem.run_bind, hue, Result.andThen_ok]
        rfl
      have hc : ((xs.map (Value.int q)).toArray)[z.toNat * 1]? = some (.int q y) := by
        rw [Nat.mul_one]
        simp [hy]
      have hb : 0 ≤ z ∧ z < (len : Int) := by rw [← hlen]; exact hz
      unfold execOp
      simp only [hop, ha.ev hx, ha.ev hi, Instr.index, asIntOf, Sem.run_bind, Sem.run_pure, Result.andThen_ok, hu, if_pos hb, hs, part, hagg, hc, Bool.false_eq_true, if_false], Ext.refl w, hw⟩) (fun _ => h)
end

/-! ### A store, in what is drawn, into a box that the region has made -/

section
variable {P : Program} {n : Nat} {R : Act → World → Prop} {ops : Array Oper} {S : World → Prop} {l : List Oper} {tl : Act → World → Prop} {k : List KI} {e : Env} {w0 : World} {m0 m : Mu} {Ls : List (List Ent)} {tb : Tab} {o : Oper}

theorem WO_storeBd (htb : TabOk P tb) (i : Nat) {T T' : TypeId} {p x : Operand} {b off : Nat} {cs : List Value} (cs' : List Value) {v : Value} (hg : gd ops e o = some true) (hd : dstOk n o.dst = true) (hop : o.op = .store T p x)
    (hp : ev e p = some (.pointer (some ⟨b, off, none⟩))) (hx : ev e x = some v) (hi : Ls[i]? = some [⟨b, T', cs⟩]) (hv : bstore tb T cs off v = some cs') (hS : ∀ w, St w0 m0 m (Ls.set i [⟨b, T', cs'⟩]) w → S w)
    (h : WO P n R ops (some S) l tl k (setE e o.dst undef) (St w0 m0 m (Ls.set i [⟨b, T', cs'⟩]))) : WO P n R ops (some S) (o :: l) tl k e (St w0 m0 m Ls) := fun a w ha hw hmd => by
  simp only [Lx]
  rw [if_pos (gd_ok ha hg)]
  have hq : qk o.op = false := by rw [hop]; rfl
  have hC := hw.setRow hi (cs' := cs')
  have hr := exec_store hop (ha.ev hp) (ha.ev hx) (run_store_row htb hv ((hw.seg hi).at_ _ (List.mem_singleton.2 rfl)).1)
  rw [if_neg (by rw [hq]; simp)]
  show Oper.upon P o a _ _ ((execOp a.eval o).run P w)
  rw [hr]
  exact ⟨hS _ hC, h (a.put o.dst undef) _ (ha.put hd _) hC (hS _ hC)⟩
end

end Go.E
