/-
  The iterator of slices.Values: what it promises.
-/
import Derived.Test.YtbolefkhmfbnlaaTab
import Derived.Test.YtbolefkhmfbnlaaP1
import Derived.Test.YtbolefkhmfbnlaaEng17
set_option linter.unusedVariables false
set_option maxRecDepth 100000
set_option maxHeartbeats 4000000
namespace Go.Proofs.Ytbolefkhmfbnlaa
open Go.E Go.RowKit
attribute [local irreducible] Go.E.WO Go.E.WK

theorem vals_iter {m : Mu} {b1 : Nat} {a : Option Addr} {q c : Nat} {xs : List Int} (hb1 : m b1 = some (Ent.obj ⟨b1, 55, [.slice a q c]⟩))
    (hs : SlR (FE (I1 .u64)) 1 m (.slice a q c) xs) (hn : xs.length ≤ 100000000000) :
    Iter Try.prog 77 [.pointer (some ⟨b1, 0, none⟩)] m (EvI .u64) xs := by
  intro l J W hW hJ hY h0
  obtain rfl := SlR.qlen hs
  refine Calls_enter (n := 16) (C := fun w => J 0 w ∧ Sat m w) Try.func77 rfl rfl rfl ?_ ⟨h0, hW⟩
  refine WK.sub (e' := [(0, .func (.yield l) #[] #[]), (1, .pointer (some ⟨b1, 0, none⟩))]) ⟨rfl, rfl, trivial⟩ ?_
  refine WK_seq ?_
  refine WK_region ?_
  refine WO_loadM tbok rfl rfl rfl rfl (fun _ h => h.2) hb1 rfl ?_
  refine WO_pure tbok 2 [(0, .func (.yield l) #[] #[]), (5, .slice a xs.length c), (6, .int .i64 (xs.length : Int)), (7, .int .i64 0)] rfl ⟨rfl, rfl, rfl, rfl, trivial⟩ ?_
  refine WO_end ?_
  refine WK_join (β := Unit) (fun _ => True) (fun _ => []) (fun _ w => J xs.length w ∧ Sat m w) ?_ (fun hk4 => ?_)
  · rintro ⟨⟩ -
    refine WK_nil (fun a w ha hw => ⟨ha.df, ⟨_, results_RL (RLc_nil (C := fun _ => True) a w ha trivial)⟩, hw.1⟩)
  refine WK_block ?_
  refine WK_loop (S := Nat) (X := Unit) (G := Unit) (fun i => if i < xs.length then some (.next (i + 1)) else some (.done ())) (fun i _ => [(0, .func (.yield l) #[] #[]), (5, .slice a xs.length c), (6, .int .i64 (xs.length : Int)), (7, .int .i64 ((i : Nat) : Int))]) (fun i _ w => J i w ∧ Sat m w) (fun i _ => i ≤ xs.length) FUEL 0 () () (loop_count _ _ _ (Nat.zero_le _) (by unfold FUEL; omega)) (Nat.zero_le _) ⟨rfl, rfl, rfl, rfl, trivial⟩ (fun _ h => h) ?_
  rintro i ⟨⟩ o fl hm hi hnx hd
  refine WK_seq ?_
  refine WK_region ?_
  refine WO_pure tbok 1 [(0, .func (.yield l) #[] #[]), (5, .slice a xs.length c), (6, .int .i64 (xs.length : Int)), (7, .int .i64 ((i : Nat) : Int)), (8, .bool (decide (((i : Nat) : Int) < (xs.length : Int))))] rfl ⟨rfl, rfl, rfl, rfl, rfl, trivial⟩ ?_
  refine WO_end ?_
  refine WK_seq ?_
  refine WK_cond (b := decide (((i : Nat) : Int) < (xs.length : Int))) rfl (fun hb => ?_) (fun hb => ?_)
  · have hlt : i < xs.length := by have := of_decide_eq_true hb; omega
    have hg : xs[i]? = some xs[i] := List.getElem?_eq_getElem hlt
    refine WK_skip ?_
    refine WK_seq ?_
    refine WK_block ?_
    refine WK_seq ?_
    refine WK_region ?_
    refine WO_index tbok rfl rfl rfl rfl rfl rfl rfl rfl (SlR.addr hs) (show 0 ≤ ((i : Nat) : Int) ∧ ((i : Nat) : Int) < (xs.length : Int) by omega) ?_
    refine WO_loadE tbok rfl rfl rfl rfl (fun _ h => h.2) hs hg rfl ?_
    refine WO_pure tbok 1 [(0, .func (.yield l) #[] #[]), (4, .int .u64 xs[i]), (5, .slice a xs.length c), (6, .int .i64 (xs.length : Int)), (7, .int .i64 ((i : Nat) : Int))] rfl ⟨rfl, rfl, rfl, rfl, rfl, trivial⟩ ?_
    refine WO_end ?_
    refine WK_seq ?_
    refine WK_yield 2 rfl rfl ?_
    refine WO_pure tbok 2 [(5, .slice a xs.length c), (6, .int .i64 (xs.length : Int)), (7, .int .i64 ((i : Nat) : Int)), (0, .func (.yield l) #[] #[]), (11, .func (.yield l) #[] #[]), (12, .int .u64 xs[i])] rfl ⟨rfl, rfl, rfl, rfl, rfl, rfl, trivial⟩ ?_
    refine WO_yields (C2 := fun w => J (i + 1) w ∧ Sat m w) rfl rfl rfl rfl rfl rfl rfl (fun w hw => hY i _ _ w hg rfl hw.1 hw.2) ?_
    refine WO_pure tbok 1 [(0, .func (.yield l) #[] #[]), (5, .slice a xs.length c), (6, .int .i64 (xs.length : Int)), (7, .int .i64 ((i : Nat) : Int)), (14, .bool false)] rfl ⟨rfl, rfl, rfl, rfl, rfl, trivial⟩ ?_
    refine WO_end ?_
    refine WK_condF rfl ?_
    refine WK_skip ?_
    refine WK_blk ?_
    refine WK_region ?_
    refine WO_pure tbok 2 [(0, .func (.yield l) #[] #[]), (5, .slice a xs.length c), (6, .int .i64 (xs.length : Int)), (7, .int .i64 (w64 (((i : Nat) : Int) + 1)))] rfl ⟨rfl, rfl, rfl, rfl, trivial⟩ ?_
    have hw2 : w64 (((i : Nat) : Int) + 1) = ((i + 1 : Nat) : Int) := by rw [w64_id (by omega) (by omega)]; omega
    rw [hw2]
    refine WO_end ?_
    rw [if_pos hlt] at hm
    cases hm
    exact hnx (i + 1) () rfl hlt
  · have hge : ¬ i < xs.length := fun h => by
      have := of_decide_eq_false hb
      omega
    have hiN : i = xs.length := by omega
    refine WK_exit rfl ?_
    refine WK.sub ?_ (WK.cls (fun _ h => by rw [← hiN]; exact h) (hk4 () trivial))
    exact trivial

end Go.Proofs.Ytbolefkhmfbnlaa
