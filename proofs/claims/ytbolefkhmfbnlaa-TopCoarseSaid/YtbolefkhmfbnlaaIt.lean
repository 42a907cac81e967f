/-
  The iterator of slices.Chunk: what it promises.
-/
import Derived.Test.YtbolefkhmfbnlaaTab
import Derived.Test.YtbolefkhmfbnlaaP1
set_option linter.unusedVariables false
set_option maxRecDepth 100000
set_option maxHeartbeats 4000000
namespace Go.Proofs.Ytbolefkhmfbnlaa
open Go.E Go.RowKit
attribute [local irreducible] Go.E.WO Go.E.WK

theorem chunk_iter {m : Mu} {b1 b2 : Nat} {a : Option Addr} {q c : Nat} {xs : List Int} {n : Int} (hb1 : m b1 = some (Ent.obj ⟨b1, 22, [.slice a q c]⟩)) (hb2 : m b2 = some (Ent.obj ⟨b2, 3, [.int .i64 n]⟩))
    (hs : SlR (FE (I1 .i64)) 1 m (.slice a q c) xs) (hn : 1 ≤ n ∧ n ≤ 1099511627776 ∧ xs.length ≤ 10000000000) :
    Iter Try.prog 65 [.pointer (some ⟨b1, 0, none⟩), .pointer (some ⟨b2, 0, none⟩)] m (EvSl (FE (I1 .i64)) 1 m) (chunksOf n.toNat xs) := by
  intro l J W hW hJ hY h0
  obtain rfl := SlR.qlen hs
  obtain ⟨k, rfl⟩ : ∃ k : Nat, n = (k : Int) := ⟨n.toNat, by omega⟩
  have hk0 : 0 < k := by omega
  have hkt : ((k : Int)).toNat = k := by omega
  rw [hkt] at hY ⊢
  have hcl : ∀ i, Closed (fun w => J i w ∧ Sat m w) := fun i w w' h he => ⟨hJ i w w' h.1 he, h.2.ext he⟩
  have hN : (chunksOf k xs).length ≤ xs.length := by
    rcases Nat.lt_or_ge xs.length (chunksOf k xs).length with h | h
    · have := (chunksOf_lt (xs := xs) (i := xs.length) hk0).1 h
      have : xs.length * 1 ≤ xs.length * k := Nat.mul_le_mul_left _ hk0
      omega
    · exact h
  refine Calls_enter (n := 31) (C := fun w => J 0 w ∧ Sat m w) Try.func65 rfl rfl rfl ?_ ⟨h0, hW⟩
  refine WK.sub (e' := [(0, .func (.yield l) #[] #[]), (1, .pointer (some ⟨b1, 0, none⟩)), (2, .pointer (some ⟨b2, 0, none⟩))]) ⟨rfl, rfl, rfl, trivial⟩ ?_
  refine WK_seq ?_
  refine WK_region ?_
  refine WO_pure tbok 1 [(0, .func (.yield l) #[] #[]), (1, .pointer (some ⟨b1, 0, none⟩)), (2, .pointer (some ⟨b2, 0, none⟩)), (4, .int .i64 0)] rfl ⟨rfl, rfl, rfl, rfl, trivial⟩ ?_
  refine WO_end ?_
  refine WK_join (β := Unit) (fun _ => True) (fun _ => []) (fun _ w => J (chunksOf k xs).length w ∧ Sat m w) ?_ (fun hk4 => ?_)
  · rintro ⟨⟩ -
    refine WK_nil (fun a w ha hw => ⟨ha.df, ⟨_, results_RL (RLc_nil (C := fun _ => True) a w ha trivial)⟩, hw.1⟩)
  refine WK_block ?_
  refine WK_loop (S := Nat) (X := Unit) (G := Unit) (fun i => if i < (chunksOf k xs).length then some (.next (i + 1)) else some (.done ())) (fun i _ => [(0, .func (.yield l) #[] #[]), (1, .pointer (some ⟨b1, 0, none⟩)), (2, .pointer (some ⟨b2, 0, none⟩)), (4, .int .i64 ((i * k : Nat) : Int))]) (fun i _ w => J i w ∧ Sat m w) (fun i _ => i ≤ (chunksOf k xs).length) FUEL 0 () () (loop_count _ _ _ (Nat.zero_le _) (by unfold FUEL; omega)) (Nat.zero_le _) (by rw [Nat.zero_mul]; exact ⟨rfl, rfl, rfl, rfl, trivial⟩) (fun _ h => h) ?_
  rintro i ⟨⟩ o fl hm hi hnx hd
  refine WK_seq ?_
  refine WK_seq ?_
  refine WK_region ?_
  refine WO_pure tbok 1 [(0, .func (.yield l) #[] #[]), (1, .pointer (some ⟨b1, 0, none⟩)), (2, .pointer (some ⟨b2, 0, none⟩)), (4, .int .i64 ((i * k : Nat) : Int)), (6, .int .i64 ((i * k : Nat) : Int))] rfl ⟨rfl, rfl, rfl, rfl, rfl, trivial⟩ ?_
  refine WO_loadM tbok rfl rfl rfl rfl (fun _ h => h.2) hb1 rfl ?_
  refine WO_pure tbok 2 [(0, .func (.yield l) #[] #[]), (1, .pointer (some ⟨b1, 0, none⟩)), (2, .pointer (some ⟨b2, 0, none⟩)), (4, .int .i64 ((i * k : Nat) : Int)), (9, .bool (decide (((i * k : Nat) : Int) < (xs.length : Int))))] rfl ⟨rfl, rfl, rfl, rfl, rfl, trivial⟩ ?_
  refine WO_end ?_
  refine WK_cond (b := decide (((i * k : Nat) : Int) < (xs.length : Int))) rfl (fun hb => ?_) (fun hb => ?_)
  · have hlt : i * k < xs.length := by have := of_decide_eq_true hb; omega
    have hiN := (chunksOf_lt hk0).2 hlt
    have hg := chunksOf_get hk0 hlt
    obtain ⟨e, he⟩ : ∃ e : Nat, e = min k (xs.length - i * k) := ⟨_, rfl⟩
    refine WK_skip ?_
    refine WK_seq ?_
    refine WK_block ?_
    refine WK_seq ?_
    refine WK_draw 7 [0, 1, 2, 3, 4, 5, 6] follows_ok (by kernel_rfl) (hcl i) ?_
    refine WO_loadM tbok rfl rfl rfl rfl (fun _ h => h.2) hb2 rfl ?_
    refine WO_loadM tbok rfl rfl rfl rfl (fun _ h => h.2) hb1 rfl ?_
    refine WO_pure tbok 1 [(0, .func (.yield l) #[] #[]), (1, .pointer (some ⟨b1, 0, none⟩)), (2, .pointer (some ⟨b2, 0, none⟩)), (4, .int .i64 ((i * k : Nat) : Int)), (13, .int .i64 (k : Int)), (14, .slice a xs.length c), (15, .int .i64 ((i * k : Nat) : Int))] rfl ⟨rfl, rfl, rfl, rfl, rfl, rfl, rfl, trivial⟩ ?_
    refine WO_slice tbok (some ((i * k : Nat) : Int)) none none (i * k) xs.length rfl rfl rfl rfl rfl rfl rfl rfl rfl rfl rfl hs rfl rfl (fun q hq => by cases hq) (by omega) (Nat.le_refl _) (fun hh => by cases hh) (fun a1 c1 hs1 => ?_)
    refine WO_pure tbok 3 [(0, .func (.yield l) #[] #[]), (1, .pointer (some ⟨b1, 0, none⟩)), (2, .pointer (some ⟨b2, 0, none⟩)), (4, .int .i64 ((i * k : Nat) : Int)), (5, .int .i64 (if ((((xs.take xs.length).drop (i * k)).length : Nat) : Int) < (k : Int) then ((((xs.take xs.length).drop (i * k)).length : Nat) : Int) else (k : Int)))] rfl ⟨rfl, rfl, rfl, rfl, rfl, trivial⟩ ?_
    have hE : (if ((((xs.take xs.length).drop (i * k)).length : Nat) : Int) < (k : Int) then ((((xs.take xs.length).drop (i * k)).length : Nat) : Int) else (k : Int)) = (e : Int) := by
      rw [List.length_drop, List.take_length, he]
      split <;> omega
    rw [hE]
    refine WO_tail ?_
    refine WO_end ?_
    refine WK_seq ?_
    refine WK_yield 10 rfl rfl ?_
    refine WO_pure tbok 1 [(0, .func (.yield l) #[] #[]), (1, .pointer (some ⟨b1, 0, none⟩)), (2, .pointer (some ⟨b2, 0, none⟩)), (4, .int .i64 ((i * k : Nat) : Int)), (5, .int .i64 (e : Int)), (19, .func (.yield l) #[] #[])] rfl ⟨rfl, rfl, rfl, rfl, rfl, rfl, trivial⟩ ?_
    refine WO_loadM tbok rfl rfl rfl rfl (fun _ h => h.2) hb1 rfl ?_
    refine WO_pure tbok 7 [(0, .func (.yield l) #[] #[]), (1, .pointer (some ⟨b1, 0, none⟩)), (2, .pointer (some ⟨b2, 0, none⟩)), (4, .int .i64 ((i * k : Nat) : Int)), (19, .func (.yield l) #[] #[]), (20, .slice a xs.length c), (21, .int .i64 ((i * k : Nat) : Int)), (24, .int .i64 (w64 (((i * k : Nat) : Int) + (e : Int)))), (27, .int .i64 (w64 (((i * k : Nat) : Int) + (e : Int))))] rfl ⟨rfl, rfl, rfl, rfl, rfl, rfl, rfl, rfl, rfl, trivial⟩ ?_
    have hw1 : w64 (((i * k : Nat) : Int) + (e : Int)) = ((i * k + e : Nat) : Int) := by rw [w64_id (by omega) (by omega)]; omega
    rw [hw1]
    refine WO_slice tbok (some ((i * k : Nat) : Int)) (some ((i * k + e : Nat) : Int)) (some ((i * k + e : Nat) : Int)) (i * k) (i * k + e) rfl rfl rfl rfl rfl rfl rfl rfl rfl rfl rfl hs rfl rfl (fun q hq => by cases hq; omega) (by omega) (by omega) (fun _ => rfl) (fun a2 c2 hs2 => ?_)
    have hch : (xs.take (i * k + e)).drop (i * k) = (xs.drop (i * k)).take k := by
      rw [List.drop_take, show i * k + e - i * k = e by omega, he]
      apply List.ext_getElem?
      intro j
      rw [List.getElem?_take, List.getElem?_take]
      by_cases hj : j < k
      · rw [if_pos hj]
        by_cases hj2 : j < xs.length - i * k
        · rw [if_pos (by omega)]
        · rw [if_neg (by omega), List.getElem?_eq_none (by rw [List.length_drop]; omega)]
      · rw [if_neg hj, if_neg (by omega)]
    refine WO_yields (C2 := fun w => J (i + 1) w ∧ Sat m w) rfl rfl rfl rfl rfl rfl rfl (fun w hw => hY i _ _ w hg ⟨_, _, _, rfl, by rw [← hch]; exact hs2⟩ hw.1 hw.2) ?_
    refine WO_pure tbok 1 [(0, .func (.yield l) #[] #[]), (1, .pointer (some ⟨b1, 0, none⟩)), (2, .pointer (some ⟨b2, 0, none⟩)), (4, .int .i64 ((i * k : Nat) : Int)), (30, .bool false)] rfl ⟨rfl, rfl, rfl, rfl, rfl, trivial⟩ ?_
    refine WO_end ?_
    refine WK_condF rfl ?_
    refine WK_skip ?_
    refine WK_blk ?_
    refine WK_region ?_
    refine WO_pure tbok 1 [(0, .func (.yield l) #[] #[]), (1, .pointer (some ⟨b1, 0, none⟩)), (2, .pointer (some ⟨b2, 0, none⟩)), (10, .int .i64 ((i * k : Nat) : Int))] rfl ⟨rfl, rfl, rfl, rfl, trivial⟩ ?_
    refine WO_loadM tbok rfl rfl rfl rfl (fun _ h => h.2) hb2 rfl ?_
    refine WO_pure tbok 2 [(0, .func (.yield l) #[] #[]), (1, .pointer (some ⟨b1, 0, none⟩)), (2, .pointer (some ⟨b2, 0, none⟩)), (4, .int .i64 (w64 (((i * k : Nat) : Int) + (k : Int))))] rfl ⟨rfl, rfl, rfl, rfl, trivial⟩ ?_
    have hw2 : w64 (((i * k : Nat) : Int) + (k : Int)) = (((i + 1) * k : Nat) : Int) := by rw [w64_id (by omega) (by omega), Nat.add_mul]; omega
    rw [hw2]
    refine WO_end ?_
    rw [if_pos hiN] at hm
    cases hm
    exact hnx (i + 1) () rfl hiN
  · have hge : ¬ i < (chunksOf k xs).length := fun h => by
      have := (chunksOf_lt hk0).1 h
      have := of_decide_eq_false hb
      omega
    have hiN : i = (chunksOf k xs).length := by omega
    refine WK_exit rfl ?_
    refine WK.sub ?_ (WK.cls (fun _ h => by rw [← hiN]; exact h) (hk4 () trivial))
    exact trivial

end Go.Proofs.Ytbolefkhmfbnlaa
