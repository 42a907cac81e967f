/-
  THE ENGINE, 2: operations that only compute, run many at a time by a function that the kernel reckons.
-/
import Derived.Test.YtbolefkhmfbnlaaEng1
import Derived.Laws.CopyRow
namespace Go.E
open Go.RowKit

structure TI where
  desc : TypeDesc
  size : Nat
  bytes : Nat
  zero : Option Value
  places : List (Nat × Nat)

abbrev Tab := List (Nat × TI)

def tget : Tab → Nat → Option TI
  | [], _ => none
  | (i, v) :: l, t => cond (Nat.beq i t) (some v) (tget l t)

structure TIok (P : Program) (t : TypeId) (i : TI) : Prop where
  und : P.underlying t = some i.desc
  info : (P.info? t).map (fun f => (f.size, f.bytes, f.zero)) = some (i.size, i.bytes, i.zero)
  flds : ∀ fs, i.desc = .struct fs → (fs.toList.map fun f => (f.offset, (P.info? f.type).map (·.size))) = i.places.map (fun p => (p.1, some p.2))

def TabOk (P : Program) (tb : Tab) : Prop := ∀ t i, tget tb t = some i → TIok P t i

theorem tabOk_nil {P : Program} : TabOk P [] := fun _ _ h => by simp [tget] at h
theorem tabOk_cons {P : Program} {t : Nat} {i : TI} {l : Tab} (h : TIok P t i) (hl : TabOk P l) : TabOk P ((t, i) :: l) := by
  intro u j hj
  simp only [tget] at hj
  cases hb : Nat.beq t u with
  | true =>
    have := Nat.eq_of_beq_eq_true hb
    subst this
    simp only [hb, cond_true, Option.some.injEq] at hj
    subst hj; exact h
  | false =>
    simp only [hb, cond_false] at hj
    exact hl u j hj

section
variable {P : Program}
theorem TIok.run_und {t : TypeId} {i : TI} (h : TIok P t i) (w : World) : (underlying t).run P w = .ok i.desc w := by
  unfold underlying program
  simp [Sem.run, h.und]
theorem TIok.typeInfo {t : TypeId} {i : TI} (h : TIok P t i) : ∃ f, P.info? t = some f ∧ f.size = i.size ∧ f.bytes = i.bytes ∧ f.zero = i.zero := by
  obtain ⟨f, hf, hh⟩ := Option.map_eq_some_iff.1 h.info
  simp only [Prod.mk.injEq] at hh
  exact ⟨f, hf, hh⟩
theorem TIok.run_size {t : TypeId} {i : TI} (h : TIok P t i) (w : World) : (sizeOf t).run P w = .ok i.size w := by
  obtain ⟨f, hf, h1, _, _⟩ := h.typeInfo
  unfold sizeOf Go.typeInfo program
  simp [Sem.run, hf, h1]
theorem TIok.run_zero {t : TypeId} {i : TI} {z : Value} (h : TIok P t i) (hz : i.zero = some z) (w : World) : (zeroValue t).run P w = .ok z w := by
  obtain ⟨f, hf, _, _, h3⟩ := h.typeInfo
  unfold zeroValue Go.typeInfo program
  simp [Sem.run, hf, h3, hz]
theorem TIok.run_fsize {t : TypeId} {i : TI} {fs : Array Field} (h : TIok P t i) (hd : i.desc = .struct fs) {j : Nat} {f : Field} (hf : fs[j]? = some f) :
    ∃ p, i.places[j]? = some p ∧ f.offset = p.1 ∧ ∀ w, (sizeOf f.type).run P w = .ok p.2 w := by
  have hh := congrArg (fun l => l[j]?) (h.flds fs hd)
  have hf' : fs.toList[j]? = some f := by simpa using hf
  simp only [List.getElem?_map, hf', Option.map_some] at hh
  obtain ⟨p, hp, he⟩ := Option.map_eq_some_iff.1 hh.symm
  simp only [Prod.mk.injEq] at he
  refine ⟨p, hp, he.1.symm, fun w => ?_⟩
  obtain ⟨g, hg, hg2⟩ := Option.map_eq_some_iff.1 he.2.symm
  unfold sizeOf Go.typeInfo program
  simp [Sem.run, hg, hg2]
theorem run_mapM_places : ∀ (fs : List Field) (ps : List (Nat × Nat)), (fs.map fun f => (f.offset, (P.info? f.type).map (·.size))) = ps.map (fun p => (p.1, some p.2)) →
    ∀ w, (fs.mapM (fun f => do pure (f.offset, ← sizeOf f.type)) : Sem (List (Nat × Nat))).run P w = .ok ps w
  | [], ps, h, w => by
    cases ps with
    | nil => rfl
    | cons p ps => simp at h
  | f :: fs, ps, h, w => by
    cases ps with
    | nil => simp at h
    | cons p ps =>
      simp only [List.map_cons, List.cons.injEq, Prod.mk.injEq] at h
      obtain ⟨⟨h1, h2⟩, h3⟩ := h
      obtain ⟨g, hg, hg2⟩ := Option.map_eq_some_iff.1 h2
      have ih := run_mapM_places fs ps h3 w
      have hs : (sizeOf f.type).run P w = .ok p.2 w := by
        unfold sizeOf Go.typeInfo program
        simp [Sem.run, hg, hg2]
      simp only [List.mapM_cons, Sem.run_bind, hs, Result.andThen_ok, Sem.run_pure, ih, h1]
end

/-! ### One operation, reckoned -/

def arith (op : BinOp) (k : IntKind) (a b : Int) : Option Value :=
  match op with
  | .add => some (.int k (k.wrap (a + b)))
  | .sub => some (.int k (k.wrap (a - b)))
  | .mul => some (.int k (k.wrap (a * b)))
  | .and => some (.int k (k.wrap (BitVec.ofInt k.bits a &&& BitVec.ofInt k.bits b).toNat))
  | .or => some (.int k (k.wrap (BitVec.ofInt k.bits a ||| BitVec.ofInt k.bits b).toNat))
  | .xor => some (.int k (k.wrap (BitVec.ofInt k.bits a ^^^ BitVec.ofInt k.bits b).toNat))
  | .eql => some (.bool (a == b))
  | .neq => some (.bool (a != b))
  | .lss => some (.bool (decide (a < b)))
  | .leq => some (.bool (decide (a ≤ b)))
  | .gtr => some (.bool (decide (b < a)))
  | .geq => some (.bool (decide (b ≤ a)))
  | .quo => if b = 0 then none else some (.int k (k.wrap (a.tdiv b)))
  | .rem => if b = 0 then none else some (.int k (a.tmod b))
  | _ => none

def minL : Value → List Value → Option Value
  | v, [] => some v
  | .int k x, .int k' y :: l => if k = k' then minL (.int k (if y < x then y else x)) l else none
  | _, _ => none
def maxL : Value → List Value → Option Value
  | v, [] => some v
  | .int k x, .int k' y :: l => if k = k' then maxL (.int k (if x < y then y else x)) l else none
  | _, _ => none

def sliceLen : Value → Option Nat
  | .slice _ n _ => some n
  | _ => none

def pcall (tb : Tab) (e : Env) (c : Call) : Option Value :=
  match c.callee with
  | .builtin .len =>
    match c.args.toList, c.argTypes.toList with
    | [x], [t] =>
      match tget tb t with
      | some i => match i.desc, ev e x with
        | .slice _, some (.slice _ n _) => some (.int .i64 n)
        | .array n _, some _ => some (.int .i64 n)
        | _, _ => none
      | none => none
    | _, _ => none
  | .builtin .min => match evs e c.args.toList with
    | some (v :: vs) => minL v vs
    | _ => none
  | .builtin .max => match evs e c.args.toList with
    | some (v :: vs) => maxL v vs
    | _ => none
  | _ => none

def evPairs (e : Env) : List (Nat × Operand) → Option (List (Nat × Value))
  | [] => some []
  | (i, x) :: l => match ev e x, evPairs e l with
    | some v, some vs => some ((i, v) :: vs)
    | _, _ => none

def number : Nat → List Value → List (Nat × Value)
  | _, [] => []
  | i, v :: l => (i, v) :: number (i + 1) l

theorem fold_set : ∀ (cs : List Value) (off : Nat) (cur : Array Value) (j : Nat), off + j + cs.length ≤ cur.size →
    ((cs.zipIdx j).foldl (fun a (p : Value × Nat) => a.setIfInBounds (off + p.2) p.1) cur).toList = cur.toList.take (off + j) ++ cs ++ cur.toList.drop (off + j + cs.length)
  | [], off, cur, j, _ => by simp
  | c :: cs, off, cur, j, h => by
    simp only [List.zipIdx_cons, List.foldl_cons]
    rw [fold_set cs off _ (j + 1) (by simp at h ⊢; omega)]
    have e := list_seg_step cur.toList (off + j) c cs (by simp at h ⊢; omega)
    simpa [Array.toList_setIfInBounds, Nat.add_assoc] using e


theorem fill_seq (pl : Nat → Option (Nat × Nat)) : ∀ (vs : List Value) (i off : Nat) (cur : Array Value),
    (∀ (j : Nat) v, vs[j]? = some v → pl (i + j) = some (off + ((vs.take j).flatMap (fun v => v.cells.toList)).length, v.cells.size)) → off + (vs.flatMap (fun v => v.cells.toList)).length = cur.size →
    ∃ cs, Instr.fill pl cur (number i vs) = some cs ∧ cs.toList = cur.toList.take off ++ vs.flatMap (fun v => v.cells.toList)
  | [], i, off, cur, _, h => ⟨cur, rfl, by
      rw [List.flatMap_nil, List.append_nil, List.take_of_length_le]
      simp at h ⊢; omega⟩
  | v :: vs, i, off, cur, hp, h => by
    have h0 := hp 0 v rfl
    simp only [Nat.add_zero, List.take_zero, List.flatMap_nil, List.length_nil] at h0
    simp only [List.flatMap_cons, List.length_append, Array.length_toList] at h
    have hf : ((v.cells.zipIdx).foldl (fun cs (x : Value × Nat) => cs.setIfInBounds (off + x.2) x.1) cur).toList = cur.toList.take off ++ v.cells.toList ++ cur.toList.drop (off + v.cells.size) := by
      have := fold_set v.cells.toList off cur 0 (by simp; omega)
      have e2 : v.cells.zipIdx = (v.cells.toList.zipIdx 0).toArray := by
        apply Array.ext'; simp
      rw [e2, List.foldl_toArray]
      simpa using this
    have hsz2 : ((v.cells.zipIdx).foldl (fun cs (x : Value × Nat) => cs.setIfInBounds (off + x.2) x.1) cur).size = cur.size := by
      rw [← Array.length_toList, hf]
      simp only [List.length_append, List.length_take, List.length_drop, Array.length_toList]
      omega
    obtain ⟨cs, h1, h2⟩ := fill_seq pl vs (i + 1) (off + v.cells.size) ((v.cells.zipIdx).foldl (fun cs (x : Value × Nat) => cs.setIfInBounds (off + x.2) x.1) cur) (fun j u hu => by
      have := hp (j + 1) u (by simpa using hu)
      simp only [List.take_succ_cons, List.flatMap_cons, List.length_append, Array.length_toList] at this
      rw [show i + 1 + j = i + (j + 1) by omega, this, Nat.add_assoc]) (by rw [hsz2]; omega)
    refine ⟨cs, ?_, ?_⟩
    · simp only [number, Instr.fill, h0]
      have hcb : ¬ ((decide (v.cells.size ≠ v.cells.size) || decide (off + v.cells.size > cur.size)) = true) := by
        simp; omega
      rw [if_neg (by simpa using hcb)]
      exact h1
    · rw [h2, hf]
      rw [List.take_append_of_le_length (by simp; omega)]
      rw [List.take_of_length_le (by simp; omega)]
      simp [List.flatMap_cons]

/-- A literal that names every part, in order. -/
def okPl : List (Nat × Nat) → Nat → Nat → List (Nat × Value) → Option (List Value)
  | [], _, _, [] => some []
  | (o, s) :: pl, i, off, (j, v) :: ps => cond (Nat.beq o off && Nat.beq j i && Nat.beq v.cells.toList.length s) (match okPl pl (i + 1) (off + s) ps with
    | some l => some (v.cells.toList ++ l)
    | none => none) none
  | _, _, _, _ => none

theorem okPl_ok : ∀ {pl : List (Nat × Nat)} {i off : Nat} {ps : List (Nat × Value)} {l : List Value}, okPl pl i off ps = some l →
    ∃ vs, ps = number i vs ∧ l = vs.flatMap (fun v => v.cells.toList) ∧ (∀ (j : Nat) v, vs[j]? = some v → pl[j]? = some (off + ((vs.take j).flatMap (fun v => v.cells.toList)).length, v.cells.size))
  | [], i, off, [], l, h => by
    simp only [okPl, Option.some.injEq] at h
    subst h
    exact ⟨[], rfl, rfl, fun j v hj => by simp at hj⟩
  | (o, s) :: pl, i, off, (j, v) :: ps, l, h => by
    simp only [okPl] at h
    cases hc : (Nat.beq o off && Nat.beq j i && Nat.beq v.cells.toList.length s) with
    | false => rw [hc] at h; cases h
    | true =>
      rw [hc] at h
      simp only [cond_true] at h
      simp only [Bool.and_eq_true] at hc
      obtain ⟨⟨h1, h2⟩, h3⟩ := hc
      have h1 := Nat.eq_of_beq_eq_true h1
      have h2 := Nat.eq_of_beq_eq_true h2
      have h3 := Nat.eq_of_beq_eq_true h3
      subst h1; subst h2
      rw [Array.length_toList] at h3
      split at h
      · rename_i q hq
        obtain rfl := Option.some.inj h
        obtain ⟨vs, rfl, rfl, hr⟩ := okPl_ok hq
        refine ⟨v :: vs, rfl, rfl, fun k u hk => ?_⟩
        cases k with
        | zero =>
          simp only [List.getElem?_cons_zero, Option.some.injEq] at hk ⊢
          subst hk
          simp [h3]
        | succ k =>
          simp only [List.getElem?_cons_succ] at hk ⊢
          rw [hr k u hk]
          simp only [List.take_succ_cons, List.flatMap_cons, List.length_append, Array.length_toList, h3, Nat.add_assoc]
      · cases h
  | [], _, _, _ :: _, _, h => by simp [okPl] at h
  | _ :: _, _, _, [], _, h => by simp [okPl] at h

def arPl (sz : Nat) : Nat → Nat → List (Nat × Nat)
  | 0, _ => []
  | n + 1, off => (off, sz) :: arPl sz n (off + sz)

theorem arPl_get (sz : Nat) : ∀ (n off j : Nat), j < n → (arPl sz n off)[j]? = some (off + j * sz, sz)
  | 0, _, _, h => by omega
  | n + 1, off, 0, _ => by simp [arPl]
  | n + 1, off, j + 1, h => by
    simp only [arPl, List.getElem?_cons_succ]
    rw [arPl_get sz n (off + sz) j (by omega), Nat.add_mul]
    congr 2
    omega
theorem arPl_none (sz : Nat) : ∀ (n off j : Nat), n ≤ j → (arPl sz n off)[j]? = none
  | 0, _, _, _ => by simp [arPl]
  | n + 1, off, 0, h => by omega
  | n + 1, off, j + 1, h => by
    simp only [arPl, List.getElem?_cons_succ]
    exact arPl_none sz n (off + sz) j (by omega)

def pbuild (tb : Tab) (t : TypeId) (ps : List (Nat × Value)) : Option Value :=
  match tget tb t with
  | some i => match i.zero with
    | some z => match i.desc with
      | .struct _ => match okPl i.places 0 0 ps with
        | some l => cond (Nat.beq l.length i.size && Nat.beq z.cells.toList.length i.size) (some (.agg l.toArray)) none
        | none => match Instr.fill (fun j => i.places[j]?) z.cells ps with
          | some cs => some (.agg cs)
          | none => none
      | .array n el => match tget tb el with
        | some j => match okPl (arPl j.size n 0) 0 0 ps with
          | some l => cond (Nat.beq l.length i.size && Nat.beq z.cells.toList.length i.size) (some (.agg l.toArray)) none
          | none => match Instr.fill (fun m => some (m * j.size, j.size)) z.cells ps with
            | some cs => some (.agg cs)
            | none => none
        | none => none
      | _ => none
    | none => none
  | none => none

def pfield (tb : Tab) (s : TypeId) (v : Value) (f : Nat) : Option Value :=
  match tget tb s, v with
  | some i, .pointer (some a) => match i.desc with
    | .struct fs => match fs[f]?, i.places[f]? with
      | some _, some (off, sz) => if sz = 0 then none else some (.pointer (some (a.add off)))
      | _, _ => none
    | _ => none
  | _, _ => none

def pindex (tb : Tab) (t : TypeId) (v : Value) (ix : Value) : Option Value :=
  match tget tb t, v, ix with
  | some i, .pointer (some a), .int _ z => match i.desc with
    | .array n el => match tget tb el with
      | some j => if 0 ≤ z ∧ z < (n : Int) then some (.pointer (some (a.add (z.toNat * j.size)))) else none
      | none => none
    | _ => none
  | _, _, _ => none

def pev (tb : Tab) (e : Env) : Op → Option Value
  | .move x => ev e x
  | .assign x => ev e x
  | .pick c a b => match ev e c with
    | some (.bool true) => ev e a
    | some (.bool false) => ev e b
    | _ => none
  | .binOp op t x y _ => match ev e x, ev e y with
    | some (.int k a), some (.int k' b) => if k = k' then arith op k a b else none
    | some (.bool a), some (.bool b) => match tget tb t with
      | some i => match i.desc, op with
        | .bool, .eql => some (.bool (a == b))
        | .bool, .neq => some (.bool (!(a == b)))
        | _, _ => none
      | none => none
    | _, _ => none
  | .unOp op _ x => match op, ev e x with
    | .not, some (.bool b) => some (.bool !b)
    | .neg, some (.int k a) => some (.int k (k.wrap (0 - a)))
    | _, _ => none
  | .extract x i => match ev e x with
    | some (.tuple vs) => vs[i]?
    | _ => none
  | .makeFunc fn first cap => match evs e first.toList, evs e cap.toList with
    | some a, some b => some (.func fn a.toArray b.toArray)
    | _, _ => none
  | .fieldAddr s x f => match ev e x with
    | some v => pfield tb s v f
    | none => none
  | .indexAddr t x i => match ev e x, ev e i with
    | some v, some j => pindex tb t v j
    | _, _ => none
  | .build t ps => match evPairs e ps.toList with
    | some vs => pbuild tb t vs
    | none => none
  | .convert s d x => match ev e x, tget tb s, tget tb d with
    | some (.int _ a), some i, some j => match i.desc, j.desc with
      | .int _, .int k => some (.int k (k.wrap a))
      | _, _ => none
    | _, _, _ => none
  | .call c => pcall tb e c
  | .nilCheck x => match ev e x with
    | some (.pointer (some a)) => some (.pointer (some a))
    | _ => none
  | _ => none

section
variable {P : Program} {tb : Tab} {n : Nat} {e : Env} {a : Act}

theorem arith_ok {op : BinOp} {k : IntKind} {x y : Int} {v : Value} (h : arith op k x y = some v) (t : TypeId) (w : World) :
    (binOp op t (.int k x) (.int k y)).run P w = .ok v w := by
  cases op <;> simp only [arith, Option.some.injEq] at h <;> try (subst h; simp [binOp, Op.intArith, Op.intBits, Op.intCmp])
  · split at h
    · cases h
    · rename_i hy
      obtain rfl := Option.some.inj h
      simp [binOp, Op.intDiv, hy]
  · split at h
    · cases h
    · rename_i hy
      obtain rfl := Option.some.inj h
      simp [binOp, Op.intDiv, hy]
  · cases h
  · cases h
  · cases h

theorem eqGuard_int (op : BinOp) (t : TypeId) (x y : Operand) (k k' : IntKind) (u v : Int) (w : World) : (eqGuard op t x y (.int k u) (.int k' v)).run P w = .ok () w := by
  cases op <;> rfl
theorem eqGuard_bool (op : BinOp) (t : TypeId) (x y : Operand) (u v : Bool) (w : World) : (eqGuard op t x y (.bool u) (.bool v)).run P w = .ok () w := by
  cases op <;> rfl

theorem run_equal_bool {t : TypeId} (ht : P.underlying t = some .bool) (x y : Bool) (w : World) : (Op.equal t (.bool x) (.bool y)).run P w = .ok (x == y) w := by
  have hu : (underlying t).run P w = .ok .bool w := by unfold underlying program; simp [Sem.run, ht]
  show (Op.equalIn (9999 + 1) t (.bool x) (.bool y)).run P w = _
  rw [Op.equalIn]
  simp [hu]

theorem minL_ok : ∀ (l : List Value) (v r : Value) (w : World), minL v l = some r → (l.foldlM Builtin.min2 v).run P w = .ok r w
  | [], v, r, w, h => by
    have : some v = some r := by cases v <;> exact h
    obtain rfl := Option.some.inj this
    rfl
  | u :: l, v, r, w, h => by
    cases v with
    | int k x =>
      cases u with
      | int k' y =>
        simp only [minL] at h
        split at h
        · rename_i hk
          subst hk
          simp only [List.foldlM_cons, Builtin.min2, Sem.run_bind, Sem.run_pure, Result.andThen_ok]
          exact minL_ok l _ r w h
        · cases h
      | _ => simp [minL] at h
    | _ => simp [minL] at h
theorem maxL_ok : ∀ (l : List Value) (v r : Value) (w : World), maxL v l = some r → (l.foldlM Builtin.max2 v).run P w = .ok r w
  | [], v, r, w, h => by
    have : some v = some r := by cases v <;> exact h
    obtain rfl := Option.some.inj this
    rfl
  | u :: l, v, r, w, h => by
    cases v with
    | int k x =>
      cases u with
      | int k' y =>
        simp only [maxL] at h
        split at h
        · rename_i hk
          subst hk
          simp only [List.foldlM_cons, Builtin.max2, Sem.run_bind, Sem.run_pure, Result.andThen_ok]
          exact maxL_ok l _ r w h
        · cases h
      | _ => simp [maxL] at h
    | _ => simp [maxL] at h

theorem evPairs_ok (ha : Ag a n e) : ∀ {l : List (Nat × Operand)} {vs : List (Nat × Value)}, evPairs e l = some vs → l.map (fun p => (p.1, a.eval p.2)) = vs
  | [], vs, h => by simp [evPairs] at h; simp [h]
  | (i, x) :: l, vs, h => by
    simp only [evPairs] at h
    split at h
    · rename_i v us hv hus
      obtain rfl := Option.some.inj h
      simp [ha.ev hv, evPairs_ok ha hus]
    · cases h

theorem pcall_ok (htb : TabOk P tb) (ha : Ag a n e) {c : Call} {ty : TypeId} {v : Value} (h : pcall tb e c = some v) (w : World) :
    (do let d ← resolve a.eval c ty; invoke d.target d.args : Sem Next).run P w = .ok (.value v) w := by
  obtain ⟨cal, args, ats⟩ := c
  unfold pcall at h
  split at h
  · rename_i hc
    simp only at hc
    subst hc
    split at h
    · rename_i x t hargs hats
      simp only at hargs hats
      obtain rfl : args = #[x] := by cases args; simp_all
      obtain rfl : ats = #[t] := by cases ats; simp_all
      split at h
      · rename_i i hi
        have hok := htb _ _ hi
        have hu := hok.run_und w
        split at h
        · rename_i el ad m cp hd hx
          obtain rfl := Option.some.inj h
          have hx' := ha.ev hx
          rw [hd] at hu
          simp [resolve, invoke, builtin, Builtin.len_, hu, hx', goInt]
        · rename_i m el u hd hx
          obtain rfl := Option.some.inj h
          rw [hd] at hu
          simp [resolve, invoke, builtin, Builtin.len_, hu, goInt]
        · cases h
      · cases h
    · cases h
  · rename_i hc
    simp only at hc
    subst hc
    split at h
    · rename_i u us hargs
      have hm := ha.evs hargs
      simp only [resolve, invoke, builtin, Sem.run_bind, Sem.run_pure, Result.andThen_ok]
      have h2 : (Builtin.min_ ats ty (args.map a.eval)).run P w = .ok v w := by
        unfold Builtin.min_
        rw [show (args.map a.eval).toList = u :: us by rw [← hm]; simp]
        exact minL_ok us u v w h
      simp [h2]
    · cases h
  · rename_i hc
    simp only at hc
    subst hc
    split at h
    · rename_i u us hargs
      have hm := ha.evs hargs
      simp only [resolve, invoke, builtin, Sem.run_bind, Sem.run_pure, Result.andThen_ok]
      have h2 : (Builtin.max_ ats ty (args.map a.eval)).run P w = .ok v w := by
        unfold Builtin.max_
        rw [show (args.map a.eval).toList = u :: us by rw [← hm]; simp]
        exact maxL_ok us u v w h
      simp [h2]
    · cases h
  · cases h

theorem fill_full {pl : List (Nat × Nat)} {ps : List (Nat × Value)} {l : List Value} {z : Value} {n : Nat} (h : okPl pl 0 0 ps = some l) (hc : (Nat.beq l.length n && Nat.beq z.cells.toList.length n) = true) {place : Nat → Option (Nat × Nat)} (hp : ∀ j x, pl[j]? = some x → place j = some x) :
    Instr.fill place z.cells ps = some l.toArray := by
  obtain ⟨vs, rfl, rfl, hr⟩ := okPl_ok h
  simp only [Bool.and_eq_true] at hc
  have h1 := Nat.eq_of_beq_eq_true hc.1
  have h2 := Nat.eq_of_beq_eq_true hc.2
  rw [Array.length_toList] at h2
  obtain ⟨cs, q1, q2⟩ := fill_seq place vs 0 0 z.cells (fun j v hj => by rw [Nat.zero_add]; exact hp _ _ (hr j v hj)) (by omega)
  rw [q1]
  congr 1
  apply Array.ext'
  rw [q2]
  simp

theorem pbuild_ok (htb : TabOk P tb) {t : TypeId} {ps : List (Nat × Value)} {v : Value} (h : pbuild tb t ps = some v) (w : World) : (Instr.build t ps.toArray).run P w = .ok v w := by
  unfold pbuild at h
  split at h
  · rename_i i hi
    have hok := htb _ _ hi
    split at h
    · rename_i z hz
      have hu := hok.run_und w
      have hzr := hok.run_zero hz w
      split at h
      · rename_i fs hd
        rw [hd] at hu
        have hm := run_mapM_places fs.toList i.places (hok.flds fs hd) w
        have hm' : (fs.mapM (fun f => do pure (f.offset, ← sizeOf f.type)) : Sem (Array (Nat × Nat))).run P w = .ok i.places.toArray w := by
          rw [Array.mapM_eq_mapM_toList]
          simp only [Sem.run_map, hm, Result.andThen_ok]
        have fin : ∀ cs, Instr.fill (fun j => i.places[j]?) z.cells ps = some cs → (Instr.build t ps.toArray).run P w = .ok (.agg cs) w := fun cs hcs => by
          unfold Instr.build
          simp only [Sem.run_bind, hzr, Result.andThen_ok, hu, hm', List.getElem?_toArray, hcs, Sem.run_pure]
        split at h
        · rename_i l hl
          cases hc : (Nat.beq l.length i.size && Nat.beq z.cells.toList.length i.size) with
          | false => rw [hc] at h; cases h
          | true =>
            rw [hc] at h
            obtain rfl := Option.some.inj h
            exact fin _ (fill_full hl hc (fun j x hx => hx))
        · split at h
          · rename_i cs hcs
            obtain rfl := Option.some.inj h
            exact fin _ hcs
          · cases h
      · rename_i m el hd
        rw [hd] at hu
        split at h
        · rename_i j hj
          have hs := (htb _ _ hj).run_size w
          have fin : ∀ cs, Instr.fill (fun m => some (m * j.size, j.size)) z.cells ps = some cs → (Instr.build t ps.toArray).run P w = .ok (.agg cs) w := fun cs hcs => by
            unfold Instr.build
            simp only [Sem.run_bind, hzr, Result.andThen_ok, hu, hs, hcs, Sem.run_pure]
          split at h
          · rename_i l hl
            cases hc : (Nat.beq l.length i.size && Nat.beq z.cells.toList.length i.size) with
            | false => rw [hc] at h; cases h
            | true =>
              rw [hc] at h
              obtain rfl := Option.some.inj h
              refine fin _ (fill_full hl hc (fun q x hx => ?_))
              rcases Nat.lt_or_ge q m with hq | hq
              · rw [arPl_get _ _ _ _ hq, Nat.zero_add] at hx
                exact hx
              · rw [arPl_none _ _ _ _ hq] at hx; cases hx
          · split at h
            · rename_i cs hcs
              obtain rfl := Option.some.inj h
              exact fin _ hcs
            · cases h
        · cases h
      · cases h
    · cases h
  · cases h

theorem pfield_ok (htb : TabOk P tb) {s : TypeId} {u v : Value} {f : Nat} (h : pfield tb s u f = some v) (w : World) : (Instr.fieldAt s u f).run P w = .ok v w := by
  unfold pfield at h
  split at h
  · rename_i i ad hi
    have hok := htb _ _ hi
    split at h
    · rename_i fs hd
      split at h
      · rename_i fl off sz hf hp
        split at h
        · cases h
        · rename_i hsz
          obtain rfl := Option.some.inj h
          have hu := hok.run_und w
          rw [hd] at hu
          obtain ⟨p, hp', ho, hrs⟩ := hok.run_fsize hd hf
          rw [hp] at hp'
          obtain rfl := Option.some.inj hp'
          unfold Instr.fieldAt
          simp only [Sem.run_bind, hu, Result.andThen_ok, hf]
          simp [Instr.sureAddr, fieldPlace, hrs w, hsz, ho]
      · cases h
    · cases h
  · cases h

theorem pindex_ok (htb : TabOk P tb) {t : TypeId} {u ix v : Value} (h : pindex tb t u ix = some v) (w : World) : (Instr.indexAt t u ix).run P w = .ok v w := by
  unfold pindex at h
  split at h
  · rename_i i ad k z hi
    have hok := htb _ _ hi
    split at h
    · rename_i m el hd
      split at h
      · rename_i j hj
        have hs := (htb _ _ hj).run_size w
        have hu := hok.run_und w
        rw [hd] at hu
        split at h
        · rename_i hz
          obtain rfl := Option.some.inj h
          unfold Instr.indexAt
          simp [asIntOf, hu, Instr.sureAddr, hz, hs]
        · cases h
      · cases h
    · cases h
  · cases h

theorem pev_ok (htb : TabOk P tb) (ha : Ag a n e) {o : Oper} {v : Value} (h : pev tb e o.op = some v) (w : World) : (execOp a.eval o).run P w = .ok (.value v) w := by
  obtain ⟨dst, op, type, pos, after, guard⟩ := o
  simp only at h
  cases op <;> simp only [pev] at h
  case move x => simp [execOp, ha.ev h]
  case assign x => simp [execOp, ha.ev h]
  case pick c x y =>
    split at h
    · rename_i hc; simp [execOp, ha.ev hc, asBool, ha.ev h]
    · rename_i hc; simp [execOp, ha.ev hc, asBool, ha.ev h]
    · cases h
  case binOp bo t x y t2 =>
    split at h
    · rename_i k p k' q hx hy
      split at h
      · rename_i hk
        subst hk
        simp only [execOp, ha.ev hx, ha.ev hy, Sem.run_bind, eqGuard_int, Result.andThen_ok, arith_ok h, Sem.run_pure]
      · cases h
    · rename_i p q hx hy
      split at h
      · rename_i i hi
        have hok := htb _ _ hi
        split at h
        · rename_i hd
          obtain rfl := Option.some.inj h
          have he := run_equal_bool (P := P) (by rw [hok.und, hd]) p q w
          simp only [execOp, ha.ev hx, ha.ev hy, Sem.run_bind, eqGuard_bool, Result.andThen_ok, binOp, he, Sem.run_pure]
        · rename_i hd
          obtain rfl := Option.some.inj h
          have he := run_equal_bool (P := P) (by rw [hok.und, hd]) p q w
          simp only [execOp, ha.ev hx, ha.ev hy, Sem.run_bind, eqGuard_bool, Result.andThen_ok, binOp, he, Sem.run_pure]
        · cases h
      · cases h
    · cases h
  case unOp uo t x =>
    split at h
    · rename_i b hx
      obtain rfl := Option.some.inj h
      simp [execOp, ha.ev hx, Op.unary]
    · rename_i k q hx
      obtain rfl := Option.some.inj h
      simp [execOp, ha.ev hx, Op.unary, Op.intArith]
    · cases h
  case extract x i =>
    split at h
    · rename_i vs hx
      simp [execOp, ha.ev hx, Instr.extract, h]
    · cases h
  case makeFunc fn first cap =>
    split at h
    · rename_i xs ys hx hy
      obtain rfl := Option.some.inj h
      have e1 : first.map a.eval = xs.toArray := by rw [← ha.evs hx]; cases first; simp
      have e2 : cap.map a.eval = ys.toArray := by rw [← ha.evs hy]; cases cap; simp
      simp [execOp, Instr.makeFunc, e1, e2]
    · cases h
  case fieldAddr s x f =>
    split at h
    · rename_i u hx
      simp [execOp, ha.ev hx, pfield_ok htb h w]
    · cases h
  case indexAddr t x i =>
    split at h
    · rename_i u j hx hj
      simp [execOp, ha.ev hx, ha.ev hj, pindex_ok htb h w]
    · cases h
  case build t ps =>
    split at h
    · rename_i vs hvs
      have e1 : (ps.map fun (i, x) => (i, a.eval x)) = vs.toArray := by rw [← evPairs_ok ha hvs]; cases ps; simp
      simp only [execOp, e1, Sem.run_bind, pbuild_ok htb h w, Result.andThen_ok, Sem.run_pure]
    · cases h
  case convert s d x =>
    split at h
    · rename_i k q i j hx hi hj
      split at h
      · rename_i k1 k2 hdi hdj
        obtain rfl := Option.some.inj h
        have h1 := (htb _ _ hi).run_und w
        have h2 := (htb _ _ hj).run_und w
        rw [hdi] at h1
        rw [hdj] at h2
        simp [execOp, ha.ev hx, convert, h1, h2, Conv.intToInt]
      · cases h
    · cases h
  case call c => exact pcall_ok htb ha h w
  case nilCheck x =>
    split at h
    · rename_i ad hx
      obtain rfl := Option.some.inj h
      simp [execOp, ha.ev hx]
    · cases h
  all_goals cases h

end
end Go.E
