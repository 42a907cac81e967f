import Derived.Test.YtoflllddpoonbaaTab
import Derived.Test.YtoflllddpoonbaaM
import Derived.Test.YtoflllddpoonbaaW1
set_option linter.unusedVariables false
set_option maxRecDepth 100000
set_option maxHeartbeats 4000000
namespace Go.Proofs.Ytoflllddpoonbaa
open Go.E Go.RowKit
attribute [local irreducible] Go.E.WO Go.E.WK
def fiducialref13_Copy_Q (r : Int × Int × Int × List Int) : Value → List Ent → Prop := fun v L => ∃ (a0 : Option Addr) (q0 c0 : Nat), v = .agg #[.int .i64 r.1, .int .i64 r.2.1, .int .i64 r.2.2.1, .slice a0 q0 c0] ∧ OwnE 3 1 (I1 .i64) (.slice a0 q0 c0) r.2.2.2 L
theorem fiducialref13_Copy_walk {m : Mu} {p0_0 : Int} {p0_1 : Int} {p0_2 : Int} {p0_3 : List Int} {a_p0_3 : Option Addr} {q_p0_3 c_p0_3 : Nat} (h_p0_3 : SlR (FE (I1 .i64)) 1 m (.slice a_p0_3 q_p0_3 c_p0_3) p0_3) {r : Int × Int × Int × List Int} (hm : fiducialref13_Copy p0_0 p0_1 p0_2 p0_3 = some r) :
    Go.E.Spec Try.prog 22 [.agg #[.int .i64 p0_0, .int .i64 p0_1, .int .i64 p0_2, .slice a_p0_3 q_p0_3 c_p0_3]] m (fun v _ L => fiducialref13_Copy_Q r v L) := by
  refine Spec_enter Try.func22 rfl rfl rfl (fun w0 => ?_)
  refine WK.sub (e' := [(0, .agg #[.int .i64 p0_0, .int .i64 p0_1, .int .i64 p0_2, .slice a_p0_3 q_p0_3 c_p0_3])]) ⟨rfl, trivial⟩ ?_
  obtain rfl := SlR.qlen h_p0_3
  refine WK.sub (e' := [(0, .agg #[.int .i64 p0_0, .int .i64 p0_1, .int .i64 p0_2, .slice a_p0_3 p0_3.length c_p0_3])]) ⟨rfl, trivial⟩ ?_
  unfold fiducialref13_Copy at hm
  refine WK_seq ?_
  refine WK_region ?_
  refine WO_box [.int .i64 p0_0, .int .i64 p0_1, .int .i64 p0_2, .slice a_p0_3 p0_3.length c_p0_3] rfl rfl trivial rfl rfl rfl (fun b2 => ?_)
  refine WO.cls (C' := St w0 m m [[⟨b2, 24, [.int .i64 p0_0, .int .i64 p0_1, .int .i64 p0_2, .slice a_p0_3 p0_3.length c_p0_3]⟩]]) (fun _ h => h) ?_
  refine WO_alloc tbok [.int .i64 0, .int .i64 0, .int .i64 0, .slice none 0 0] rfl rfl trivial rfl rfl rfl rfl (fun b3 => ?_)
  refine WO.cls (C' := St w0 m m [[⟨b2, 24, [.int .i64 p0_0, .int .i64 p0_1, .int .i64 p0_2, .slice a_p0_3 p0_3.length c_p0_3]⟩], [⟨b3, 24, [.int .i64 0, .int .i64 0, .int .i64 0, .slice none 0 0]⟩]]) (fun _ h => h) ?_
  refine WO_end ?_
  refine WK_seq ?_
  refine WK_region ?_
  refine WO_bslice (E := (I1 .i64)) tbok (fun _ => rfl) (by decide) [] ([] : List Int) rfl rfl trivial rfl rfl rfl rfl rfl rfl rfl rfl rfl rfl rfl rfl (fun b4 hb4 => ?_)
  refine WO.cls (C' := St w0 m m [[⟨b2, 24, [.int .i64 p0_0, .int .i64 p0_1, .int .i64 p0_2, .slice a_p0_3 p0_3.length c_p0_3]⟩], [⟨b3, 24, [.int .i64 0, .int .i64 0, .int .i64 0, .slice none 0 0]⟩], [⟨b4, 3, ([] : List Int).flatMap (I1 .i64)⟩]]) (fun _ h => h) ?_
  refine WO_pure tbok 1 [(1, .pointer (some ⟨b2, 0, none⟩)), (2, .pointer (some ⟨b3, 0, none⟩)), (3, .slice (some ⟨b4, 0, none⟩) 0 0), (4, .pointer (some ⟨b2, 3, none⟩))] rfl ⟨rfl, rfl, rfl, rfl, trivial⟩ ?_
  refine WO_loadB tbok 0 rfl rfl rfl rfl (fun _ h => h) rfl rfl ?_
  obtain ⟨hc6, hm⟩ := chk_some hm
  refine WO_appendS (E := (I1 .i64)) tbok (fun _ => rfl) (by decide) (fun _ => rfl) 2 p0_3 rfl rfl rfl rfl rfl rfl rfl rfl rfl rfl rfl rfl hb4 rfl (fun w hw => ⟨_, hw.sat, h_p0_3⟩) (ap_ok (by decide) hc6) (ap_max hc6) (fun a7 c8 L9 hL9 => ?_)
  refine WO.cls (C' := St w0 m m [[⟨b2, 24, [.int .i64 p0_0, .int .i64 p0_1, .int .i64 p0_2, .slice a_p0_3 p0_3.length c_p0_3]⟩], [⟨b3, 24, [.int .i64 0, .int .i64 0, .int .i64 0, .slice none 0 0]⟩], L9]) (fun _ h => h) ?_
  refine WO_pure tbok 1 [(1, .pointer (some ⟨b2, 0, none⟩)), (2, .pointer (some ⟨b3, 0, none⟩)), (6, .slice a7 ((([] : List Int) ++ p0_3).length) c8), (7, .pointer (some ⟨b2, 3, none⟩))] rfl ⟨rfl, rfl, rfl, rfl, trivial⟩ ?_
  refine WO_storeB tbok 0 [.int .i64 p0_0, .int .i64 p0_1, .int .i64 p0_2, .slice a7 ((([] : List Int) ++ p0_3).length) c8] rfl rfl rfl rfl rfl rfl rfl ?_
  refine WO.cls (C' := St w0 m m [[⟨b2, 24, [.int .i64 p0_0, .int .i64 p0_1, .int .i64 p0_2, .slice a7 ((([] : List Int) ++ p0_3).length) c8]⟩], [⟨b3, 24, [.int .i64 0, .int .i64 0, .int .i64 0, .slice none 0 0]⟩], L9]) (fun _ h => h) ?_
  refine WO_end ?_
  refine WK_seq ?_
  refine WK_region ?_
  refine WO_loadB tbok 0 rfl rfl rfl rfl (fun _ h => h) rfl rfl ?_
  refine WO_storeB tbok 1 [.int .i64 p0_0, .int .i64 p0_1, .int .i64 p0_2, .slice a7 ((([] : List Int) ++ p0_3).length) c8] rfl rfl rfl rfl rfl rfl rfl ?_
  refine WO.cls (C' := St w0 m m [[⟨b2, 24, [.int .i64 p0_0, .int .i64 p0_1, .int .i64 p0_2, .slice a7 ((([] : List Int) ++ p0_3).length) c8]⟩], [⟨b3, 24, [.int .i64 p0_0, .int .i64 p0_1, .int .i64 p0_2, .slice a7 ((([] : List Int) ++ p0_3).length) c8]⟩], L9]) (fun _ h => h) ?_
  refine WO_end ?_
  cases hm
  exact WK_ret (ret_out (L := L9) (RLc_cell tbok 1 rfl rfl rfl RLc_nil) (seg_sub 2 rfl) ⟨a7, ((([] : List Int) ++ p0_3).length), c8, rfl, hL9⟩)
def fiducialref13_Mirror_Q (r : Int × Int × Int × List Int) : Value → List Ent → Prop := fun v L => ∃ (a0 : Option Addr) (q0 c0 : Nat), v = .agg #[.int .i64 r.1, .int .i64 r.2.1, .int .i64 r.2.2.1, .slice a0 q0 c0] ∧ OwnE 3 1 (I1 .i64) (.slice a0 q0 c0) r.2.2.2 L
theorem fiducialref13_Mirror_walk {m : Mu} {p0_0 : Int} {p0_1 : Int} {p0_2 : Int} {p0_3 : List Int} {a_p0_3 : Option Addr} {q_p0_3 c_p0_3 : Nat} (h_p0_3 : SlR (FE (I1 .i64)) 1 m (.slice a_p0_3 q_p0_3 c_p0_3) p0_3) {r : Int × Int × Int × List Int} (hm : fiducialref13_Mirror p0_0 p0_1 p0_2 p0_3 = some r) :
    Go.E.Spec Try.prog 19 [.agg #[.int .i64 p0_0, .int .i64 p0_1, .int .i64 p0_2, .slice a_p0_3 q_p0_3 c_p0_3]] m (fun v _ L => fiducialref13_Mirror_Q r v L) := by
  refine Spec_enter Try.func19 rfl rfl rfl (fun w0 => ?_)
  refine WK.sub (e' := [(0, .agg #[.int .i64 p0_0, .int .i64 p0_1, .int .i64 p0_2, .slice a_p0_3 q_p0_3 c_p0_3])]) ⟨rfl, trivial⟩ ?_
  obtain rfl := SlR.qlen h_p0_3
  refine WK.sub (e' := [(0, .agg #[.int .i64 p0_0, .int .i64 p0_1, .int .i64 p0_2, .slice a_p0_3 p0_3.length c_p0_3])]) ⟨rfl, trivial⟩ ?_
  unfold fiducialref13_Mirror at hm
  refine WK_seq ?_
  refine WK_region ?_
  refine WO_box [.int .i64 p0_0, .int .i64 p0_1, .int .i64 p0_2, .slice a_p0_3 p0_3.length c_p0_3] rfl rfl trivial rfl rfl rfl (fun b2 => ?_)
  refine WO.cls (C' := St w0 m m [[⟨b2, 24, [.int .i64 p0_0, .int .i64 p0_1, .int .i64 p0_2, .slice a_p0_3 p0_3.length c_p0_3]⟩]]) (fun _ h => h) ?_
  refine WO_alloc tbok [.int .i64 0, .int .i64 0, .int .i64 0, .slice none 0 0] rfl rfl trivial rfl rfl rfl rfl (fun b3 => ?_)
  refine WO.cls (C' := St w0 m m [[⟨b2, 24, [.int .i64 p0_0, .int .i64 p0_1, .int .i64 p0_2, .slice a_p0_3 p0_3.length c_p0_3]⟩], [⟨b3, 24, [.int .i64 0, .int .i64 0, .int .i64 0, .slice none 0 0]⟩]]) (fun _ h => h) ?_
  refine WO_end ?_
  refine WK_seq ?_
  refine WK_region ?_
  refine WO_loadB tbok 0 rfl rfl rfl rfl (fun _ h => h) rfl rfl ?_
  obtain ⟨⟨y4, y5, y6, y7⟩, hc8, hm⟩ := bind_some hm
  refine WO_call1 (fiducialref13_Copy_Q (y4, y5, y6, y7)) rfl rfl trivial rfl rfl rfl rfl ⟨22, #[], #[], rfl, callable_22, fun w hw => ⟨_, hw.sat, fiducialref13_Copy_walk h_p0_3 hc8⟩⟩ (fun v13 L12 hq => ?_)
  obtain ⟨a9, qa9, c10, rfl, hL12⟩ := hq
  obtain rfl := OwnE.qlen hL12
  refine WO.cls (C' := St w0 m m [[⟨b2, 24, [.int .i64 p0_0, .int .i64 p0_1, .int .i64 p0_2, .slice a_p0_3 p0_3.length c_p0_3]⟩], [⟨b3, 24, [.int .i64 0, .int .i64 0, .int .i64 0, .slice none 0 0]⟩], L12]) (fun _ h => h) ?_
  refine WO_alloc tbok [.int .i64 0, .int .i64 0, .int .i64 0, .slice none 0 0] rfl rfl trivial rfl rfl rfl rfl (fun b14 => ?_)
  refine WO.cls (C' := St w0 m m [[⟨b2, 24, [.int .i64 p0_0, .int .i64 p0_1, .int .i64 p0_2, .slice a_p0_3 p0_3.length c_p0_3]⟩], [⟨b3, 24, [.int .i64 0, .int .i64 0, .int .i64 0, .slice none 0 0]⟩], L12, [⟨b14, 24, [.int .i64 0, .int .i64 0, .int .i64 0, .slice none 0 0]⟩]]) (fun _ h => h) ?_
  refine WO_storeB tbok 3 [.int .i64 y4, .int .i64 y5, .int .i64 y6, .slice a9 ((y7).length) c10] rfl rfl rfl rfl rfl rfl rfl ?_
  refine WO.cls (C' := St w0 m m [[⟨b2, 24, [.int .i64 p0_0, .int .i64 p0_1, .int .i64 p0_2, .slice a_p0_3 p0_3.length c_p0_3]⟩], [⟨b3, 24, [.int .i64 0, .int .i64 0, .int .i64 0, .slice none 0 0]⟩], L12, [⟨b14, 24, [.int .i64 y4, .int .i64 y5, .int .i64 y6, .slice a9 ((y7).length) c10]⟩]]) (fun _ h => h) ?_
  refine WO_end ?_
  refine WK_seq ?_
  refine WK_seq ?_
  refine WK_region ?_
  refine WO_pure tbok 1 [(1, .pointer (some ⟨b2, 0, none⟩)), (2, .pointer (some ⟨b3, 0, none⟩)), (3, .pointer (some ⟨b14, 0, none⟩)), (4, .int .i64 0)] rfl ⟨rfl, rfl, rfl, rfl, trivial⟩ ?_
  refine WO_end ?_
  obtain ⟨x22, hx23, hm⟩ := bind_some hm
  refine WK_join (β := (List Int) × (List Ent)) (fun p => p.1 = x22 ∧ OwnE 3 1 (I1 .i64) (.slice a9 ((y7).length) c10) p.1 p.2) (fun p => [(2, .pointer (some ⟨b3, 0, none⟩)), (3, .pointer (some ⟨b14, 0, none⟩))]) (fun p => St w0 m m [[⟨b2, 24, [.int .i64 p0_0, .int .i64 p0_1, .int .i64 p0_2, .slice a_p0_3 p0_3.length c_p0_3]⟩], [⟨b3, 24, [.int .i64 0, .int .i64 0, .int .i64 0, .slice none 0 0]⟩], p.2, [⟨b14, 24, [.int .i64 y4, .int .i64 y5, .int .i64 y6, .slice a9 ((y7).length) c10]⟩]]) ?_ (fun hk24 => ?_)
  · rintro ⟨l19, L21⟩ ⟨hq30, hL21⟩
    subst hq30
    refine WK.sub (e' := [(2, .pointer (some ⟨b3, 0, none⟩)), (3, .pointer (some ⟨b14, 0, none⟩))]) ⟨rfl, rfl, trivial⟩ (WK.cls (C' := St w0 m m [[⟨b2, 24, [.int .i64 p0_0, .int .i64 p0_1, .int .i64 p0_2, .slice a_p0_3 p0_3.length c_p0_3]⟩], [⟨b3, 24, [.int .i64 0, .int .i64 0, .int .i64 0, .slice none 0 0]⟩], L21, [⟨b14, 24, [.int .i64 y4, .int .i64 y5, .int .i64 y6, .slice a9 ((y7).length) c10]⟩]]) (fun _ h => h) ?_)
    refine WK_seq ?_
    refine WK_region ?_
    refine WO_loadB tbok 3 rfl rfl rfl rfl (fun _ h => h) rfl rfl ?_
    refine WO_storeB tbok 1 [.int .i64 y4, .int .i64 y5, .int .i64 y6, .slice a9 ((y7).length) c10] rfl rfl rfl rfl rfl rfl rfl ?_
    refine WO.cls (C' := St w0 m m [[⟨b2, 24, [.int .i64 p0_0, .int .i64 p0_1, .int .i64 p0_2, .slice a_p0_3 p0_3.length c_p0_3]⟩], [⟨b3, 24, [.int .i64 y4, .int .i64 y5, .int .i64 y6, .slice a9 ((y7).length) c10]⟩], L21, [⟨b14, 24, [.int .i64 y4, .int .i64 y5, .int .i64 y6, .slice a9 ((y7).length) c10]⟩]]) (fun _ h => h) ?_
    refine WO_end ?_
    cases hm
    exact WK_ret (ret_out (L := L21) (RLc_cell tbok 1 rfl rfl rfl RLc_nil) (seg_sub 2 rfl) ⟨a9, ((y7).length), c10, rfl, hL21⟩)
  · refine WK_block ?_
    refine WK_loop (S := List Int × Int) (G := List Ent) (fun s => fiducialref13_Mirror_s1 p0_0 p0_1 p0_2 p0_3 s.1 s.2) (fun s g => [(1, .pointer (some ⟨b2, 0, none⟩)), (2, .pointer (some ⟨b3, 0, none⟩)), (3, .pointer (some ⟨b14, 0, none⟩)), (4, .int .i64 s.2)]) (fun s g => St w0 m m [[⟨b2, 24, [.int .i64 p0_0, .int .i64 p0_1, .int .i64 p0_2, .slice a_p0_3 p0_3.length c_p0_3]⟩], [⟨b3, 24, [.int .i64 0, .int .i64 0, .int .i64 0, .slice none 0 0]⟩], g, [⟨b14, 24, [.int .i64 y4, .int .i64 y5, .int .i64 y6, .slice a9 ((y7).length) c10]⟩]]) (fun s g => OwnE 3 1 (I1 .i64) (.slice a9 ((y7).length) c10) s.1 g) FUEL (y7, 0) L12 x22 hx23 hL12 ⟨rfl, rfl, rfl, rfl, trivial⟩ (fun _ h => h) ?_
    rintro ⟨l15, s18⟩ L17 o26 fl27 hm25 hL17 hn28 hd29
    have hm25 : fiducialref13_Mirror_s1 p0_0 p0_1 p0_2 p0_3 l15 s18 = some o26 := hm25
    unfold fiducialref13_Mirror_s1 at hm25
    refine WK.sub (e' := [(1, .pointer (some ⟨b2, 0, none⟩)), (2, .pointer (some ⟨b3, 0, none⟩)), (3, .pointer (some ⟨b14, 0, none⟩)), (4, .int .i64 s18)]) ⟨rfl, rfl, rfl, rfl, trivial⟩ (WK.cls (C' := St w0 m m [[⟨b2, 24, [.int .i64 p0_0, .int .i64 p0_1, .int .i64 p0_2, .slice a_p0_3 p0_3.length c_p0_3]⟩], [⟨b3, 24, [.int .i64 0, .int .i64 0, .int .i64 0, .slice none 0 0]⟩], L17, [⟨b14, 24, [.int .i64 y4, .int .i64 y5, .int .i64 y6, .slice a9 ((y7).length) c10]⟩]]) (fun _ h => h) ?_)
    refine WK_seq ?_
    refine WK_seq ?_
    refine WK_region ?_
    refine WO_pure tbok 2 [(1, .pointer (some ⟨b2, 0, none⟩)), (2, .pointer (some ⟨b3, 0, none⟩)), (3, .pointer (some ⟨b14, 0, none⟩)), (4, .int .i64 s18), (8, .int .i64 s18), (9, .pointer (some ⟨b2, 1, none⟩))] rfl ⟨rfl, rfl, rfl, rfl, rfl, rfl, trivial⟩ ?_
    refine WO_loadB tbok 0 rfl rfl rfl rfl (fun _ h => h) rfl rfl ?_
    refine WO_pure tbok 1 [(1, .pointer (some ⟨b2, 0, none⟩)), (2, .pointer (some ⟨b3, 0, none⟩)), (3, .pointer (some ⟨b14, 0, none⟩)), (4, .int .i64 s18), (11, .bool (decide (s18 < p0_1)))] rfl ⟨rfl, rfl, rfl, rfl, rfl, trivial⟩ ?_
    refine WO_end ?_
    refine WK_cond (b := decide (s18 < p0_1)) rfl (fun hb31 => ?_) (fun hb31 => ?_)
    · have hm25 := ifT hb31 hm25
      refine WK_skip ?_
      refine WK_seq ?_
      refine WK_block ?_
      refine WK_seq ?_
      refine WK_region ?_
      refine WO_pure tbok 1 [(1, .pointer (some ⟨b2, 0, none⟩)), (2, .pointer (some ⟨b3, 0, none⟩)), (3, .pointer (some ⟨b14, 0, none⟩)), (4, .int .i64 s18), (5, .int .i64 0)] rfl ⟨rfl, rfl, rfl, rfl, rfl, trivial⟩ ?_
      refine WO_end ?_
      obtain ⟨x39, hx40, hm25⟩ := bind_some hm25
      refine WK_join (β := (List Int) × (List Ent)) (fun p => p.1 = x39 ∧ OwnE 3 1 (I1 .i64) (.slice a9 ((y7).length) c10) p.1 p.2) (fun p => [(1, .pointer (some ⟨b2, 0, none⟩)), (2, .pointer (some ⟨b3, 0, none⟩)), (3, .pointer (some ⟨b14, 0, none⟩)), (4, .int .i64 s18)]) (fun p => St w0 m m [[⟨b2, 24, [.int .i64 p0_0, .int .i64 p0_1, .int .i64 p0_2, .slice a_p0_3 p0_3.length c_p0_3]⟩], [⟨b3, 24, [.int .i64 0, .int .i64 0, .int .i64 0, .slice none 0 0]⟩], p.2, [⟨b14, 24, [.int .i64 y4, .int .i64 y5, .int .i64 y6, .slice a9 ((y7).length) c10]⟩]]) ?_ (fun hk41 => ?_)
      · rintro ⟨l36, L38⟩ ⟨hq47, hL38⟩
        subst hq47
        refine WK.sub (e' := [(1, .pointer (some ⟨b2, 0, none⟩)), (2, .pointer (some ⟨b3, 0, none⟩)), (3, .pointer (some ⟨b14, 0, none⟩)), (4, .int .i64 s18)]) ⟨rfl, rfl, rfl, rfl, trivial⟩ (WK.cls (C' := St w0 m m [[⟨b2, 24, [.int .i64 p0_0, .int .i64 p0_1, .int .i64 p0_2, .slice a_p0_3 p0_3.length c_p0_3]⟩], [⟨b3, 24, [.int .i64 0, .int .i64 0, .int .i64 0, .slice none 0 0]⟩], L38, [⟨b14, 24, [.int .i64 y4, .int .i64 y5, .int .i64 y6, .slice a9 ((y7).length) c10]⟩]]) (fun _ h => h) ?_)
        refine WK_blk ?_
        refine WK_region ?_
        refine WO_pure tbok 3 [(1, .pointer (some ⟨b2, 0, none⟩)), (2, .pointer (some ⟨b3, 0, none⟩)), (3, .pointer (some ⟨b14, 0, none⟩)), (4, .int .i64 (w64 (s18 + 1)))] rfl ⟨rfl, rfl, rfl, rfl, trivial⟩ ?_
        refine WO_end ?_
        cases hm25
        refine WK.sub ?_ (WK.cls (fun _ h => h) (hn28 _ L38 rfl hL38))
        exact ⟨rfl, rfl, rfl, rfl, trivial⟩
      · refine WK_block ?_
        refine WK_loop (S := List Int × Int) (G := List Ent) (fun s => fiducialref13_Mirror_s2 p0_0 p0_1 p0_2 p0_3 s18 s.1 s.2) (fun s g => [(1, .pointer (some ⟨b2, 0, none⟩)), (2, .pointer (some ⟨b3, 0, none⟩)), (3, .pointer (some ⟨b14, 0, none⟩)), (4, .int .i64 s18), (5, .int .i64 s.2)]) (fun s g => St w0 m m [[⟨b2, 24, [.int .i64 p0_0, .int .i64 p0_1, .int .i64 p0_2, .slice a_p0_3 p0_3.length c_p0_3]⟩], [⟨b3, 24, [.int .i64 0, .int .i64 0, .int .i64 0, .slice none 0 0]⟩], g, [⟨b14, 24, [.int .i64 y4, .int .i64 y5, .int .i64 y6, .slice a9 ((y7).length) c10]⟩]]) (fun s g => OwnE 3 1 (I1 .i64) (.slice a9 ((y7).length) c10) s.1 g) FUEL (l15, 0) L17 x39 hx40 hL17 ⟨rfl, rfl, rfl, rfl, rfl, trivial⟩ (fun _ h => h) ?_
        rintro ⟨l32, s35⟩ L34 o43 fl44 hm42 hL34 hn45 hd46
        have hm42 : fiducialref13_Mirror_s2 p0_0 p0_1 p0_2 p0_3 s18 l32 s35 = some o43 := hm42
        unfold fiducialref13_Mirror_s2 at hm42
        refine WK.sub (e' := [(1, .pointer (some ⟨b2, 0, none⟩)), (2, .pointer (some ⟨b3, 0, none⟩)), (3, .pointer (some ⟨b14, 0, none⟩)), (4, .int .i64 s18), (5, .int .i64 s35)]) ⟨rfl, rfl, rfl, rfl, rfl, trivial⟩ (WK.cls (C' := St w0 m m [[⟨b2, 24, [.int .i64 p0_0, .int .i64 p0_1, .int .i64 p0_2, .slice a_p0_3 p0_3.length c_p0_3]⟩], [⟨b3, 24, [.int .i64 0, .int .i64 0, .int .i64 0, .slice none 0 0]⟩], L34, [⟨b14, 24, [.int .i64 y4, .int .i64 y5, .int .i64 y6, .slice a9 ((y7).length) c10]⟩]]) (fun _ h => h) ?_)
        refine WK_seq ?_
        refine WK_seq ?_
        refine WK_region ?_
        refine WO_pure tbok 2 [(1, .pointer (some ⟨b2, 0, none⟩)), (2, .pointer (some ⟨b3, 0, none⟩)), (3, .pointer (some ⟨b14, 0, none⟩)), (4, .int .i64 s18), (5, .int .i64 s35), (14, .int .i64 s35), (15, .pointer (some ⟨b2, 0, none⟩))] rfl ⟨rfl, rfl, rfl, rfl, rfl, rfl, rfl, trivial⟩ ?_
        refine WO_loadB tbok 0 rfl rfl rfl rfl (fun _ h => h) rfl rfl ?_
        refine WO_pure tbok 1 [(1, .pointer (some ⟨b2, 0, none⟩)), (2, .pointer (some ⟨b3, 0, none⟩)), (3, .pointer (some ⟨b14, 0, none⟩)), (4, .int .i64 s18), (5, .int .i64 s35), (17, .bool (decide (s35 < p0_0)))] rfl ⟨rfl, rfl, rfl, rfl, rfl, rfl, trivial⟩ ?_
        refine WO_end ?_
        refine WK_cond (b := decide (s35 < p0_0)) rfl (fun hb48 => ?_) (fun hb48 => ?_)
        · have hm42 := ifT hb48 hm42
          refine WK_skip ?_
          refine WK_seq ?_
          refine WK_block ?_
          refine WK_draw 17 [0, 1, 2, 3, 4, 5, 6, 7, 8, 9, 10, 11, 12, 13, 14, 15, 16] follows_ok (by kernel_rfl) St_closed ?_
          refine WO_pure tbok 1 [(1, .pointer (some ⟨b2, 0, none⟩)), (2, .pointer (some ⟨b3, 0, none⟩)), (3, .pointer (some ⟨b14, 0, none⟩)), (4, .int .i64 s18), (5, .int .i64 s35), (20, .pointer (some ⟨b14, 3, none⟩))] rfl ⟨rfl, rfl, rfl, rfl, rfl, rfl, trivial⟩ ?_
          refine WO_loadB tbok 3 rfl rfl rfl rfl (fun _ h => h) rfl rfl ?_
          refine WO_pure tbok 2 [(1, .pointer (some ⟨b2, 0, none⟩)), (2, .pointer (some ⟨b3, 0, none⟩)), (3, .pointer (some ⟨b14, 0, none⟩)), (4, .int .i64 s18), (5, .int .i64 s35), (21, .slice a9 ((y7).length) c10), (22, .int .i64 s18), (23, .pointer (some ⟨b2, 0, none⟩))] rfl ⟨rfl, rfl, rfl, rfl, rfl, rfl, rfl, rfl, trivial⟩ ?_
          refine WO_loadB tbok 0 rfl rfl rfl rfl (fun _ h => h) rfl rfl ?_
          refine WO_pure tbok 3 [(1, .pointer (some ⟨b2, 0, none⟩)), (2, .pointer (some ⟨b3, 0, none⟩)), (3, .pointer (some ⟨b14, 0, none⟩)), (4, .int .i64 s18), (5, .int .i64 s35), (21, .slice a9 ((y7).length) c10), (27, .int .i64 (w64 ((w64 (s18 * p0_0)) + s35)))] rfl ⟨rfl, rfl, rfl, rfl, rfl, rfl, rfl, trivial⟩ ?_
          refine WO_loadB tbok 0 rfl rfl rfl rfl (fun _ h => h) rfl rfl ?_
          refine WO_pure tbok 1 [(1, .pointer (some ⟨b2, 0, none⟩)), (2, .pointer (some ⟨b3, 0, none⟩)), (3, .pointer (some ⟨b14, 0, none⟩)), (4, .int .i64 s18), (5, .int .i64 s35), (21, .slice a9 ((y7).length) c10), (27, .int .i64 (w64 ((w64 (s18 * p0_0)) + s35))), (28, .agg #[.int .i64 p0_0, .int .i64 p0_1, .int .i64 p0_2, .slice a_p0_3 p0_3.length c_p0_3]), (29, .pointer (some ⟨b2, 0, none⟩))] rfl ⟨rfl, rfl, rfl, rfl, rfl, rfl, rfl, rfl, rfl, trivial⟩ ?_
          refine WO_loadB tbok 0 rfl rfl rfl rfl (fun _ h => h) rfl rfl ?_
          refine WO_pure tbok 4 [(1, .pointer (some ⟨b2, 0, none⟩)), (2, .pointer (some ⟨b3, 0, none⟩)), (3, .pointer (some ⟨b14, 0, none⟩)), (4, .int .i64 s18), (5, .int .i64 s35), (21, .slice a9 ((y7).length) c10), (27, .int .i64 (w64 ((w64 (s18 * p0_0)) + s35))), (28, .agg #[.int .i64 p0_0, .int .i64 p0_1, .int .i64 p0_2, .slice a_p0_3 p0_3.length c_p0_3]), (33, .int .i64 (w64 ((w64 (p0_0 - 1)) - s35))), (34, .int .i64 s18)] rfl ⟨rfl, rfl, rfl, rfl, rfl, rfl, rfl, rfl, rfl, rfl, trivial⟩ ?_
          obtain ⟨y49, hc50, hm42⟩ := bind_some hm42
          refine WO_call0 (.int .i64 y49) rfl rfl St_closed rfl rfl rfl rfl St_closed ⟨44, #[], #[], rfl, callable_44, fun w hw => ⟨_, hw.sat, fiducialref13_At_walk h_p0_3 hc50⟩⟩ ?_
          obtain ⟨hc51, hm42⟩ := chk_some hm42
          refine WO_index tbok rfl rfl rfl rfl rfl rfl rfl rfl (OwnE.addr hL34) (by simpa using hc51) ?_
          refine WO_tail ?_
          refine WO_storeO (E := (I1 .i64)) tbok (fun _ => rfl) 2 y49 rfl rfl rfl rfl rfl hL34 rfl (by simpa using idx_lt hc51) rfl rfl rfl rfl (fun L52 hL52 => ?_)
          refine WO.cls (C' := St w0 m m [[⟨b2, 24, [.int .i64 p0_0, .int .i64 p0_1, .int .i64 p0_2, .slice a_p0_3 p0_3.length c_p0_3]⟩], [⟨b3, 24, [.int .i64 0, .int .i64 0, .int .i64 0, .slice none 0 0]⟩], L52, [⟨b14, 24, [.int .i64 y4, .int .i64 y5, .int .i64 y6, .slice a9 ((y7).length) c10]⟩]]) (fun _ h => h) ?_
          refine WO_end ?_
          refine WK_blk ?_
          refine WK_region ?_
          refine WO_pure tbok 3 [(1, .pointer (some ⟨b2, 0, none⟩)), (2, .pointer (some ⟨b3, 0, none⟩)), (3, .pointer (some ⟨b14, 0, none⟩)), (4, .int .i64 s18), (5, .int .i64 (w64 (s35 + 1)))] rfl ⟨rfl, rfl, rfl, rfl, rfl, trivial⟩ ?_
          refine WO_end ?_
          cases hm42
          refine WK.sub ?_ (WK.cls (fun _ h => h) (hn45 _ L52 rfl hL52))
          exact ⟨rfl, rfl, rfl, rfl, rfl, trivial⟩
        · have hm42 := ifF hb48 hm42
          refine WK_exit rfl ?_
          cases hm42
          refine WK.sub ?_ (WK.cls (fun _ h => h) (hk41 (l32, L34) ⟨(hd46 _ rfl), hL34⟩))
          exact ⟨rfl, rfl, rfl, rfl, trivial⟩
    · have hm25 := ifF hb31 hm25
      refine WK_exit rfl ?_
      cases hm25
      refine WK.sub ?_ (WK.cls (fun _ h => h) (hk24 (l15, L17) ⟨(hd29 _ rfl), hL17⟩))
      exact ⟨rfl, rfl, trivial⟩
theorem fiduciallaw13_RasterTurns_walk {m : Mu} {p0_0 : Int} {p0_1 : Int} {p0_2 : Int} {p0_3 : List Int} {a_p0_3 : Option Addr} {q_p0_3 c_p0_3 : Nat} (h_p0_3 : SlR (FE (I1 .i64)) 1 m (.slice a_p0_3 q_p0_3 c_p0_3) p0_3) {r : Bool} (hm : fiduciallaw13_RasterTurns p0_0 p0_1 p0_2 p0_3 = some r) :
    Go.E.Spec Try.prog 3 [.agg #[.int .i64 p0_0, .int .i64 p0_1, .int .i64 p0_2, .slice a_p0_3 q_p0_3 c_p0_3]] m (fun v _ _ => v = .bool r) := by
  refine Spec_enter Try.func3 rfl rfl rfl (fun w0 => ?_)
  refine WK.sub (e' := [(0, .agg #[.int .i64 p0_0, .int .i64 p0_1, .int .i64 p0_2, .slice a_p0_3 q_p0_3 c_p0_3])]) ⟨rfl, trivial⟩ ?_
  obtain rfl := SlR.qlen h_p0_3
  refine WK.sub (e' := [(0, .agg #[.int .i64 p0_0, .int .i64 p0_1, .int .i64 p0_2, .slice a_p0_3 p0_3.length c_p0_3])]) ⟨rfl, trivial⟩ ?_
  unfold fiduciallaw13_RasterTurns at hm
  refine WK_seq ?_
  refine WK_region ?_
  refine WO_box [.int .i64 p0_0, .int .i64 p0_1, .int .i64 p0_2, .slice a_p0_3 p0_3.length c_p0_3] rfl rfl trivial rfl rfl rfl (fun b2 => ?_)
  refine WO.cls (C' := St w0 m m [[⟨b2, 24, [.int .i64 p0_0, .int .i64 p0_1, .int .i64 p0_2, .slice a_p0_3 p0_3.length c_p0_3]⟩]]) (fun _ h => h) ?_
  refine WO_pure tbok 1 [(1, .pointer (some ⟨b2, 0, none⟩)), (2, .bool false)] rfl ⟨rfl, rfl, trivial⟩ ?_
  refine WO_end ?_
  refine WK_seq ?_
  refine WK_seq ?_
  refine WK_region ?_
  obtain ⟨y3, hc4, hm⟩ := bind_some hm
  refine WO_call0 (.bool y3) rfl rfl trivial rfl rfl rfl rfl St_closed ⟨11, #[], #[], rfl, callable_11, fun w hw => ⟨_, hw.sat, fiduciallaw13_known_walk hc4⟩⟩ ?_
  refine WO_pure tbok 1 [(1, .pointer (some ⟨b2, 0, none⟩)), (2, .bool false), (23, .bool (!y3))] rfl ⟨rfl, rfl, rfl, trivial⟩ ?_
  refine WO_end ?_
  refine WK_cond (b := !y3) rfl (fun hb5 => ?_) (fun hb5 => ?_)
  · have hm := ifT hb5 hm
    refine WK_seq ?_
    refine WK_region ?_
    refine WO_pure tbok 1 [(1, .pointer (some ⟨b2, 0, none⟩)), (2, .bool false)] rfl ⟨rfl, rfl, trivial⟩ ?_
    refine WO_end ?_
    cases hm
    exact WK_ret (ret_out (L := []) (RLc_tmp rfl RLc_nil) (List.nil_sublist _) rfl)
  · have hm := ifF hb5 hm
    refine WK_skip ?_
    refine WK_seq ?_
    refine WK_seq ?_
    refine WK_region ?_
    refine WO_loadB tbok 0 rfl rfl rfl rfl (fun _ h => h) rfl rfl ?_
    refine WO_bsliceX (E := V4) (El := El24) tbok (fun _ => rfl) (by decide) [.agg #[.int .i64 p0_0, .int .i64 p0_1, .int .i64 p0_2, .slice a_p0_3 p0_3.length c_p0_3]] [(.int .i64 p0_0, .int .i64 p0_1, .int .i64 p0_2, .slice a_p0_3 p0_3.length c_p0_3)] ([(p0_0, p0_1, p0_2, p0_3)] : List (Int × Int × Int × List Int)) rfl rfl trivial rfl rfl rfl rfl rfl rfl rfl rfl rfl rfl rfl rfl ⟨⟨_, _, _, rfl, h_p0_3⟩, trivial⟩ (fun b6 hb6 => ?_)
    refine WO.cls (C' := St w0 m m [[⟨b2, 24, [.int .i64 p0_0, .int .i64 p0_1, .int .i64 p0_2, .slice a_p0_3 p0_3.length c_p0_3]⟩], [⟨b6, 24, [.int .i64 p0_0, .int .i64 p0_1, .int .i64 p0_2, .slice a_p0_3 p0_3.length c_p0_3]⟩]]) (fun _ h => h) ?_
    obtain ⟨y8, hc9, hm⟩ := bind_some hm
    refine WO_call0 (.bool y8) rfl rfl trivial rfl rfl rfl rfl St_closed ⟨12, #[], #[], rfl, callable_12, fun w hw => ⟨_, hw.satV, fiduciallaw13_few_walk (OwnX.rd (E := V4) (k := 4) (fun _ => rfl) hb6 mono_El24 hw.leV (fun _ hx => hw.memV (i := 1) rfl hx)) hc9⟩⟩ ?_
    refine WO_pure tbok 1 [(1, .pointer (some ⟨b2, 0, none⟩)), (2, .bool false), (27, .bool (!y8))] rfl ⟨rfl, rfl, rfl, trivial⟩ ?_
    refine WO_end ?_
    refine WK_cond (b := !y8) rfl (fun hb10 => ?_) (fun hb10 => ?_)
    · have hm := ifT hb10 hm
      refine WK_seq ?_
      refine WK_region ?_
      refine WO_pure tbok 1 [(1, .pointer (some ⟨b2, 0, none⟩)), (2, .bool true)] rfl ⟨rfl, rfl, trivial⟩ ?_
      refine WO_end ?_
      cases hm
      exact WK_ret (ret_out (L := []) (RLc_tmp rfl RLc_nil) (List.nil_sublist _) rfl)
    · have hm := ifF hb10 hm
      refine WK_skip ?_
      refine WK_seq ?_
      refine WK_region ?_
      refine WO_loadB tbok 0 rfl rfl rfl rfl (fun _ h => h) rfl rfl ?_
      obtain ⟨⟨y11, y12, y13, y14, y15⟩, hc16, hm⟩ := bind_some hm
      refine WO_call1 (raster_Turn_Q (y11, y12, y13, y14, y15)) rfl rfl trivial rfl rfl rfl rfl ⟨13, #[], #[], rfl, callable_13, fun w hw => ⟨_, hw.sat, raster_Turn_walk h_p0_3 hc16⟩⟩ (fun v21 L20 hq => ?_)
      obtain ⟨a17, qa17, c18, rfl, hL20⟩ := hq
      obtain rfl := OwnE.qlen hL20
      refine WO.cls (C' := St w0 m m [[⟨b2, 24, [.int .i64 p0_0, .int .i64 p0_1, .int .i64 p0_2, .slice a_p0_3 p0_3.length c_p0_3]⟩], [⟨b6, 24, [.int .i64 p0_0, .int .i64 p0_1, .int .i64 p0_2, .slice a_p0_3 p0_3.length c_p0_3]⟩], L20]) (fun _ h => h) ?_
      refine WO_pure tbok 3 [(1, .pointer (some ⟨b2, 0, none⟩)), (2, .bool false), (31, .agg #[.int .i64 y11, .int .i64 y12, .int .i64 y13, .slice a17 ((y14).length) c18]), (32, .int .i64 y15)] rfl ⟨rfl, rfl, rfl, rfl, trivial⟩ ?_
      refine WO_alloc tbok [.int .i64 0, .int .i64 0, .int .i64 0, .slice none 0 0] rfl rfl trivial rfl rfl rfl rfl (fun b22 => ?_)
      refine WO.cls (C' := St w0 m m [[⟨b2, 24, [.int .i64 p0_0, .int .i64 p0_1, .int .i64 p0_2, .slice a_p0_3 p0_3.length c_p0_3]⟩], [⟨b6, 24, [.int .i64 p0_0, .int .i64 p0_1, .int .i64 p0_2, .slice a_p0_3 p0_3.length c_p0_3]⟩], L20, [⟨b22, 24, [.int .i64 0, .int .i64 0, .int .i64 0, .slice none 0 0]⟩]]) (fun _ h => h) ?_
      refine WO_storeB tbok 3 [.int .i64 y11, .int .i64 y12, .int .i64 y13, .slice a17 ((y14).length) c18] rfl rfl rfl rfl rfl rfl rfl ?_
      refine WO.cls (C' := St w0 m m [[⟨b2, 24, [.int .i64 p0_0, .int .i64 p0_1, .int .i64 p0_2, .slice a_p0_3 p0_3.length c_p0_3]⟩], [⟨b6, 24, [.int .i64 p0_0, .int .i64 p0_1, .int .i64 p0_2, .slice a_p0_3 p0_3.length c_p0_3]⟩], L20, [⟨b22, 24, [.int .i64 y11, .int .i64 y12, .int .i64 y13, .slice a17 ((y14).length) c18]⟩]]) (fun _ h => h) ?_
      refine WO_pure tbok 1 [(1, .pointer (some ⟨b2, 0, none⟩)), (2, .bool false), (3, .pointer (some ⟨b22, 0, none⟩)), (4, .int .i64 y15)] rfl ⟨rfl, rfl, rfl, rfl, trivial⟩ ?_
      refine WO_end ?_
      refine WK_seq ?_
      refine WK_region ?_
      refine WO_loadB tbok 0 rfl rfl rfl rfl (fun _ h => h) rfl rfl ?_
      obtain ⟨⟨y23, y24, y25, y26, y27⟩, hc28, hm⟩ := bind_some hm
      refine WO_call1 (raster_Mirror_Q (y23, y24, y25, y26, y27)) rfl rfl trivial rfl rfl rfl rfl ⟨14, #[], #[], rfl, callable_14, fun w hw => ⟨_, hw.sat, raster_Mirror_walk h_p0_3 hc28⟩⟩ (fun v33 L32 hq => ?_)
      obtain ⟨a29, qa29, c30, rfl, hL32⟩ := hq
      obtain rfl := OwnE.qlen hL32
      refine WO.cls (C' := St w0 m m [[⟨b2, 24, [.int .i64 p0_0, .int .i64 p0_1, .int .i64 p0_2, .slice a_p0_3 p0_3.length c_p0_3]⟩], [⟨b6, 24, [.int .i64 p0_0, .int .i64 p0_1, .int .i64 p0_2, .slice a_p0_3 p0_3.length c_p0_3]⟩], L20, [⟨b22, 24, [.int .i64 y11, .int .i64 y12, .int .i64 y13, .slice a17 ((y14).length) c18]⟩], L32]) (fun _ h => h) ?_
      refine WO_pure tbok 3 [(1, .pointer (some ⟨b2, 0, none⟩)), (2, .bool false), (3, .pointer (some ⟨b22, 0, none⟩)), (4, .int .i64 y15), (36, .agg #[.int .i64 y23, .int .i64 y24, .int .i64 y25, .slice a29 ((y26).length) c30]), (37, .int .i64 y27)] rfl ⟨rfl, rfl, rfl, rfl, rfl, rfl, trivial⟩ ?_
      refine WO_alloc tbok [.int .i64 0, .int .i64 0, .int .i64 0, .slice none 0 0] rfl rfl trivial rfl rfl rfl rfl (fun b34 => ?_)
      refine WO.cls (C' := St w0 m m [[⟨b2, 24, [.int .i64 p0_0, .int .i64 p0_1, .int .i64 p0_2, .slice a_p0_3 p0_3.length c_p0_3]⟩], [⟨b6, 24, [.int .i64 p0_0, .int .i64 p0_1, .int .i64 p0_2, .slice a_p0_3 p0_3.length c_p0_3]⟩], L20, [⟨b22, 24, [.int .i64 y11, .int .i64 y12, .int .i64 y13, .slice a17 ((y14).length) c18]⟩], L32, [⟨b34, 24, [.int .i64 0, .int .i64 0, .int .i64 0, .slice none 0 0]⟩]]) (fun _ h => h) ?_
      refine WO_storeB tbok 5 [.int .i64 y23, .int .i64 y24, .int .i64 y25, .slice a29 ((y26).length) c30] rfl rfl rfl rfl rfl rfl rfl ?_
      refine WO.cls (C' := St w0 m m [[⟨b2, 24, [.int .i64 p0_0, .int .i64 p0_1, .int .i64 p0_2, .slice a_p0_3 p0_3.length c_p0_3]⟩], [⟨b6, 24, [.int .i64 p0_0, .int .i64 p0_1, .int .i64 p0_2, .slice a_p0_3 p0_3.length c_p0_3]⟩], L20, [⟨b22, 24, [.int .i64 y11, .int .i64 y12, .int .i64 y13, .slice a17 ((y14).length) c18]⟩], L32, [⟨b34, 24, [.int .i64 y23, .int .i64 y24, .int .i64 y25, .slice a29 ((y26).length) c30]⟩]]) (fun _ h => h) ?_
      refine WO_pure tbok 1 [(1, .pointer (some ⟨b2, 0, none⟩)), (2, .bool false), (3, .pointer (some ⟨b22, 0, none⟩)), (4, .int .i64 y15), (5, .pointer (some ⟨b34, 0, none⟩)), (6, .int .i64 y27)] rfl ⟨rfl, rfl, rfl, rfl, rfl, rfl, trivial⟩ ?_
      refine WO_end ?_
      refine WK_seq ?_
      refine WK_seq ?_
      refine WK_region ?_
      refine WO_loadB tbok 0 rfl rfl rfl rfl (fun _ h => h) rfl rfl ?_
      obtain ⟨y35, hc36, hm⟩ := bind_some hm
      refine WO_call0 (.int .i64 y35) rfl rfl trivial rfl rfl rfl rfl St_closed ⟨15, #[], #[], rfl, callable_15, fun w hw => ⟨_, hw.sat, fiducialref13_Check_walk h_p0_3 hc36⟩⟩ ?_
      refine WO_pure tbok 1 [(1, .pointer (some ⟨b2, 0, none⟩)), (2, .bool false), (3, .pointer (some ⟨b22, 0, none⟩)), (4, .int .i64 y15), (5, .pointer (some ⟨b34, 0, none⟩)), (6, .int .i64 y27), (7, .int .i64 y35)] rfl ⟨rfl, rfl, rfl, rfl, rfl, rfl, rfl, trivial⟩ ?_
      refine WO_end ?_
      refine WK_seq ?_
      refine WK_region ?_
      refine WO_pure tbok 2 [(1, .pointer (some ⟨b2, 0, none⟩)), (2, .bool false), (3, .pointer (some ⟨b22, 0, none⟩)), (4, .int .i64 y15), (5, .pointer (some ⟨b34, 0, none⟩)), (6, .int .i64 y27), (7, .int .i64 y35), (41, .bool (y35 != 0))] rfl ⟨rfl, rfl, rfl, rfl, rfl, rfl, rfl, rfl, trivial⟩ ?_
      refine WO_end ?_
      refine WK_cond (b := y35 != 0) rfl (fun hb37 => ?_) (fun hb37 => ?_)
      · have hm := ifT hb37 hm
        refine WK_seq ?_
        refine WK_region ?_
        refine WO_pure tbok 4 [(1, .pointer (some ⟨b2, 0, none⟩)), (2, .bool false), (3, .pointer (some ⟨b22, 0, none⟩)), (4, .int .i64 y15), (5, .pointer (some ⟨b34, 0, none⟩)), (6, .int .i64 y27), (7, .int .i64 y35), (45, .bool (y15 == y35))] rfl ⟨rfl, rfl, rfl, rfl, rfl, rfl, rfl, rfl, trivial⟩ ?_
        refine WO_split (d := 45) (b := y15 == y35) rfl (fun hb38 => ?_) (fun hb38 => ?_)
        · have hm := ifT hb38 hm
          refine WO_pure tbok 5 [(1, .pointer (some ⟨b2, 0, none⟩)), (2, .bool false), (3, .pointer (some ⟨b22, 0, none⟩)), (4, .int .i64 y15), (5, .pointer (some ⟨b34, 0, none⟩)), (6, .int .i64 y27), (50, .bool (y27 == y35))] rfl ⟨rfl, rfl, rfl, rfl, rfl, rfl, rfl, trivial⟩ ?_
          refine WO_split (d := 50) (b := y27 == y35) rfl (fun hb39 => ?_) (fun hb39 => ?_)
          · have hm := ifT hb39 hm
            refine WO_loadB tbok 3 rfl rfl rfl rfl (fun _ h => h) rfl rfl ?_
            obtain ⟨y40, hc41, hm⟩ := bind_some hm
            refine WO_call0 (.bool y40) rfl rfl trivial rfl rfl rfl rfl St_closed ⟨16, #[], #[], rfl, callable_16, fun w hw => ⟨_, hw.satV, fiduciallaw13_empty_walk (OwnE.rd (E := (I1 .i64)) (k := 1) (fun _ => rfl) hL20 (fun _ hx => hw.memV (i := 2) rfl hx)) hc41⟩⟩ ?_
            refine WO_pure tbok 2 [(1, .pointer (some ⟨b2, 0, none⟩)), (2, .bool false), (3, .pointer (some ⟨b22, 0, none⟩)), (4, .int .i64 y15), (5, .pointer (some ⟨b34, 0, none⟩)), (6, .int .i64 y27), (54, .bool y40)] rfl ⟨rfl, rfl, rfl, rfl, rfl, rfl, rfl, trivial⟩ ?_
            refine WO_split (d := 54) (b := y40) rfl (fun hb42 => ?_) (fun hb42 => ?_)
            · have hm := ifT hb42 hm
              refine WO_loadB tbok 5 rfl rfl rfl rfl (fun _ h => h) rfl rfl ?_
              obtain ⟨y43, hc44, hm⟩ := bind_some hm
              refine WO_call0 (.bool y43) rfl rfl trivial rfl rfl rfl rfl St_closed ⟨16, #[], #[], rfl, callable_16, fun w hw => ⟨_, hw.satV, fiduciallaw13_empty_walk (OwnE.rd (E := (I1 .i64)) (k := 1) (fun _ => rfl) hL32 (fun _ hx => hw.memV (i := 4) rfl hx)) hc44⟩⟩ ?_
              refine WO_pure tbok 2 [(1, .pointer (some ⟨b2, 0, none⟩)), (2, .bool y43), (3, .pointer (some ⟨b22, 0, none⟩)), (4, .int .i64 y15), (5, .pointer (some ⟨b34, 0, none⟩)), (6, .int .i64 y27)] rfl ⟨rfl, rfl, rfl, rfl, rfl, rfl, trivial⟩ ?_
              refine WO_end ?_
              cases hm
              exact WK_ret (ret_out (L := []) (RLc_tmp rfl RLc_nil) (List.nil_sublist _) rfl)
            · have hm := ifF hb42 hm
              refine WO_pure tbok 1 [(1, .pointer (some ⟨b2, 0, none⟩)), (2, .bool false), (3, .pointer (some ⟨b22, 0, none⟩)), (4, .int .i64 y15), (5, .pointer (some ⟨b34, 0, none⟩)), (6, .int .i64 y27), (54, .bool false)] rfl ⟨rfl, rfl, rfl, rfl, rfl, rfl, rfl, trivial⟩ ?_
              refine WO_skip rfl rfl ?_
              refine WO_pure tbok 2 [(1, .pointer (some ⟨b2, 0, none⟩)), (2, .bool false), (3, .pointer (some ⟨b22, 0, none⟩)), (4, .int .i64 y15), (5, .pointer (some ⟨b34, 0, none⟩)), (6, .int .i64 y27)] rfl ⟨rfl, rfl, rfl, rfl, rfl, rfl, trivial⟩ ?_
              refine WO_end ?_
              cases hm
              exact WK_ret (ret_out (L := []) (RLc_tmp rfl RLc_nil) (List.nil_sublist _) rfl)
          · have hm := ifF hb39 hm
            refine WO_pure tbok 1 [(1, .pointer (some ⟨b2, 0, none⟩)), (2, .bool false), (3, .pointer (some ⟨b22, 0, none⟩)), (4, .int .i64 y15), (5, .pointer (some ⟨b34, 0, none⟩)), (6, .int .i64 y27), (50, .bool false)] rfl ⟨rfl, rfl, rfl, rfl, rfl, rfl, rfl, trivial⟩ ?_
            refine WO_skip rfl rfl ?_
            refine WO_pure tbok 3 [(1, .pointer (some ⟨b2, 0, none⟩)), (2, .bool false), (3, .pointer (some ⟨b22, 0, none⟩)), (4, .int .i64 y15), (5, .pointer (some ⟨b34, 0, none⟩)), (6, .int .i64 y27), (54, .bool false)] rfl ⟨rfl, rfl, rfl, rfl, rfl, rfl, rfl, trivial⟩ ?_
            refine WO_skip rfl rfl ?_
            refine WO_pure tbok 2 [(1, .pointer (some ⟨b2, 0, none⟩)), (2, .bool false), (3, .pointer (some ⟨b22, 0, none⟩)), (4, .int .i64 y15), (5, .pointer (some ⟨b34, 0, none⟩)), (6, .int .i64 y27)] rfl ⟨rfl, rfl, rfl, rfl, rfl, rfl, trivial⟩ ?_
            refine WO_end ?_
            cases hm
            exact WK_ret (ret_out (L := []) (RLc_tmp rfl RLc_nil) (List.nil_sublist _) rfl)
        · have hm := ifF hb38 hm
          refine WO_pure tbok 6 [(1, .pointer (some ⟨b2, 0, none⟩)), (2, .bool false), (3, .pointer (some ⟨b22, 0, none⟩)), (4, .int .i64 y15), (5, .pointer (some ⟨b34, 0, none⟩)), (6, .int .i64 y27), (50, .bool false)] rfl ⟨rfl, rfl, rfl, rfl, rfl, rfl, rfl, trivial⟩ ?_
          refine WO_skip rfl rfl ?_
          refine WO_pure tbok 3 [(1, .pointer (some ⟨b2, 0, none⟩)), (2, .bool false), (3, .pointer (some ⟨b22, 0, none⟩)), (4, .int .i64 y15), (5, .pointer (some ⟨b34, 0, none⟩)), (6, .int .i64 y27), (54, .bool false)] rfl ⟨rfl, rfl, rfl, rfl, rfl, rfl, rfl, trivial⟩ ?_
          refine WO_skip rfl rfl ?_
          refine WO_pure tbok 2 [(1, .pointer (some ⟨b2, 0, none⟩)), (2, .bool false), (3, .pointer (some ⟨b22, 0, none⟩)), (4, .int .i64 y15), (5, .pointer (some ⟨b34, 0, none⟩)), (6, .int .i64 y27)] rfl ⟨rfl, rfl, rfl, rfl, rfl, rfl, trivial⟩ ?_
          refine WO_end ?_
          cases hm
          exact WK_ret (ret_out (L := []) (RLc_tmp rfl RLc_nil) (List.nil_sublist _) rfl)
      · have hm := ifF hb37 hm
        refine WK_skip ?_
        refine WK_seq ?_
        refine WK_region ?_
        refine WO_loadB tbok 3 rfl rfl rfl rfl (fun _ h => h) rfl rfl ?_
        obtain ⟨⟨y45, y46, y47, y48, y49⟩, hc50, hm⟩ := bind_some hm
        refine WO_call1 (raster_Turn_Q (y45, y46, y47, y48, y49)) rfl rfl trivial rfl rfl rfl rfl ⟨13, #[], #[], rfl, callable_13, fun w hw => ⟨_, hw.satV, raster_Turn_walk (OwnE.rd (E := (I1 .i64)) (k := 1) (fun _ => rfl) hL20 (fun _ hx => hw.memV (i := 2) rfl hx)) hc50⟩⟩ (fun v55 L54 hq => ?_)
        obtain ⟨a51, qa51, c52, rfl, hL54⟩ := hq
        obtain rfl := OwnE.qlen hL54
        refine WO.cls (C' := St w0 m m [[⟨b2, 24, [.int .i64 p0_0, .int .i64 p0_1, .int .i64 p0_2, .slice a_p0_3 p0_3.length c_p0_3]⟩], [⟨b6, 24, [.int .i64 p0_0, .int .i64 p0_1, .int .i64 p0_2, .slice a_p0_3 p0_3.length c_p0_3]⟩], L20, [⟨b22, 24, [.int .i64 y11, .int .i64 y12, .int .i64 y13, .slice a17 ((y14).length) c18]⟩], L32, [⟨b34, 24, [.int .i64 y23, .int .i64 y24, .int .i64 y25, .slice a29 ((y26).length) c30]⟩], L54]) (fun _ h => h) ?_
        refine WO_pure tbok 3 [(1, .pointer (some ⟨b2, 0, none⟩)), (2, .bool false), (3, .pointer (some ⟨b22, 0, none⟩)), (4, .int .i64 y15), (5, .pointer (some ⟨b34, 0, none⟩)), (6, .int .i64 y27), (61, .agg #[.int .i64 y45, .int .i64 y46, .int .i64 y47, .slice a51 ((y48).length) c52]), (62, .int .i64 y49)] rfl ⟨rfl, rfl, rfl, rfl, rfl, rfl, rfl, rfl, trivial⟩ ?_
        refine WO_alloc tbok [.int .i64 0, .int .i64 0, .int .i64 0, .slice none 0 0] rfl rfl trivial rfl rfl rfl rfl (fun b56 => ?_)
        refine WO.cls (C' := St w0 m m [[⟨b2, 24, [.int .i64 p0_0, .int .i64 p0_1, .int .i64 p0_2, .slice a_p0_3 p0_3.length c_p0_3]⟩], [⟨b6, 24, [.int .i64 p0_0, .int .i64 p0_1, .int .i64 p0_2, .slice a_p0_3 p0_3.length c_p0_3]⟩], L20, [⟨b22, 24, [.int .i64 y11, .int .i64 y12, .int .i64 y13, .slice a17 ((y14).length) c18]⟩], L32, [⟨b34, 24, [.int .i64 y23, .int .i64 y24, .int .i64 y25, .slice a29 ((y26).length) c30]⟩], L54, [⟨b56, 24, [.int .i64 0, .int .i64 0, .int .i64 0, .slice none 0 0]⟩]]) (fun _ h => h) ?_
        refine WO_storeB tbok 7 [.int .i64 y45, .int .i64 y46, .int .i64 y47, .slice a51 ((y48).length) c52] rfl rfl rfl rfl rfl rfl rfl ?_
        refine WO.cls (C' := St w0 m m [[⟨b2, 24, [.int .i64 p0_0, .int .i64 p0_1, .int .i64 p0_2, .slice a_p0_3 p0_3.length c_p0_3]⟩], [⟨b6, 24, [.int .i64 p0_0, .int .i64 p0_1, .int .i64 p0_2, .slice a_p0_3 p0_3.length c_p0_3]⟩], L20, [⟨b22, 24, [.int .i64 y11, .int .i64 y12, .int .i64 y13, .slice a17 ((y14).length) c18]⟩], L32, [⟨b34, 24, [.int .i64 y23, .int .i64 y24, .int .i64 y25, .slice a29 ((y26).length) c30]⟩], L54, [⟨b56, 24, [.int .i64 y45, .int .i64 y46, .int .i64 y47, .slice a51 ((y48).length) c52]⟩]]) (fun _ h => h) ?_
        refine WO_pure tbok 1 [(1, .pointer (some ⟨b2, 0, none⟩)), (2, .bool false), (3, .pointer (some ⟨b22, 0, none⟩)), (4, .int .i64 y15), (5, .pointer (some ⟨b34, 0, none⟩)), (6, .int .i64 y27), (8, .pointer (some ⟨b56, 0, none⟩)), (9, .int .i64 y49)] rfl ⟨rfl, rfl, rfl, rfl, rfl, rfl, rfl, rfl, trivial⟩ ?_
        refine WO_end ?_
        refine WK_seq ?_
        refine WK_region ?_
        refine WO_loadB tbok 7 rfl rfl rfl rfl (fun _ h => h) rfl rfl ?_
        obtain ⟨⟨y57, y58, y59, y60, y61⟩, hc62, hm⟩ := bind_some hm
        refine WO_call1 (raster_Turn_Q (y57, y58, y59, y60, y61)) rfl rfl trivial rfl rfl rfl rfl ⟨13, #[], #[], rfl, callable_13, fun w hw => ⟨_, hw.satV, raster_Turn_walk (OwnE.rd (E := (I1 .i64)) (k := 1) (fun _ => rfl) hL54 (fun _ hx => hw.memV (i := 6) rfl hx)) hc62⟩⟩ (fun v67 L66 hq => ?_)
        obtain ⟨a63, qa63, c64, rfl, hL66⟩ := hq
        obtain rfl := OwnE.qlen hL66
        refine WO.cls (C' := St w0 m m [[⟨b2, 24, [.int .i64 p0_0, .int .i64 p0_1, .int .i64 p0_2, .slice a_p0_3 p0_3.length c_p0_3]⟩], [⟨b6, 24, [.int .i64 p0_0, .int .i64 p0_1, .int .i64 p0_2, .slice a_p0_3 p0_3.length c_p0_3]⟩], L20, [⟨b22, 24, [.int .i64 y11, .int .i64 y12, .int .i64 y13, .slice a17 ((y14).length) c18]⟩], L32, [⟨b34, 24, [.int .i64 y23, .int .i64 y24, .int .i64 y25, .slice a29 ((y26).length) c30]⟩], L54, [⟨b56, 24, [.int .i64 y45, .int .i64 y46, .int .i64 y47, .slice a51 ((y48).length) c52]⟩], L66]) (fun _ h => h) ?_
        refine WO_pure tbok 3 [(1, .pointer (some ⟨b2, 0, none⟩)), (2, .bool false), (3, .pointer (some ⟨b22, 0, none⟩)), (4, .int .i64 y15), (5, .pointer (some ⟨b34, 0, none⟩)), (6, .int .i64 y27), (9, .int .i64 y49), (66, .agg #[.int .i64 y57, .int .i64 y58, .int .i64 y59, .slice a63 ((y60).length) c64]), (67, .int .i64 y61)] rfl ⟨rfl, rfl, rfl, rfl, rfl, rfl, rfl, rfl, rfl, trivial⟩ ?_
        refine WO_alloc tbok [.int .i64 0, .int .i64 0, .int .i64 0, .slice none 0 0] rfl rfl trivial rfl rfl rfl rfl (fun b68 => ?_)
        refine WO.cls (C' := St w0 m m [[⟨b2, 24, [.int .i64 p0_0, .int .i64 p0_1, .int .i64 p0_2, .slice a_p0_3 p0_3.length c_p0_3]⟩], [⟨b6, 24, [.int .i64 p0_0, .int .i64 p0_1, .int .i64 p0_2, .slice a_p0_3 p0_3.length c_p0_3]⟩], L20, [⟨b22, 24, [.int .i64 y11, .int .i64 y12, .int .i64 y13, .slice a17 ((y14).length) c18]⟩], L32, [⟨b34, 24, [.int .i64 y23, .int .i64 y24, .int .i64 y25, .slice a29 ((y26).length) c30]⟩], L54, [⟨b56, 24, [.int .i64 y45, .int .i64 y46, .int .i64 y47, .slice a51 ((y48).length) c52]⟩], L66, [⟨b68, 24, [.int .i64 0, .int .i64 0, .int .i64 0, .slice none 0 0]⟩]]) (fun _ h => h) ?_
        refine WO_storeB tbok 9 [.int .i64 y57, .int .i64 y58, .int .i64 y59, .slice a63 ((y60).length) c64] rfl rfl rfl rfl rfl rfl rfl ?_
        refine WO.cls (C' := St w0 m m [[⟨b2, 24, [.int .i64 p0_0, .int .i64 p0_1, .int .i64 p0_2, .slice a_p0_3 p0_3.length c_p0_3]⟩], [⟨b6, 24, [.int .i64 p0_0, .int .i64 p0_1, .int .i64 p0_2, .slice a_p0_3 p0_3.length c_p0_3]⟩], L20, [⟨b22, 24, [.int .i64 y11, .int .i64 y12, .int .i64 y13, .slice a17 ((y14).length) c18]⟩], L32, [⟨b34, 24, [.int .i64 y23, .int .i64 y24, .int .i64 y25, .slice a29 ((y26).length) c30]⟩], L54, [⟨b56, 24, [.int .i64 y45, .int .i64 y46, .int .i64 y47, .slice a51 ((y48).length) c52]⟩], L66, [⟨b68, 24, [.int .i64 y57, .int .i64 y58, .int .i64 y59, .slice a63 ((y60).length) c64]⟩]]) (fun _ h => h) ?_
        refine WO_pure tbok 1 [(1, .pointer (some ⟨b2, 0, none⟩)), (2, .bool false), (3, .pointer (some ⟨b22, 0, none⟩)), (4, .int .i64 y15), (5, .pointer (some ⟨b34, 0, none⟩)), (6, .int .i64 y27), (9, .int .i64 y49), (10, .pointer (some ⟨b68, 0, none⟩)), (11, .int .i64 y61)] rfl ⟨rfl, rfl, rfl, rfl, rfl, rfl, rfl, rfl, rfl, trivial⟩ ?_
        refine WO_end ?_
        refine WK_seq ?_
        refine WK_region ?_
        refine WO_loadB tbok 9 rfl rfl rfl rfl (fun _ h => h) rfl rfl ?_
        obtain ⟨⟨y69, y70, y71, y72, y73⟩, hc74, hm⟩ := bind_some hm
        refine WO_call1 (raster_Turn_Q (y69, y70, y71, y72, y73)) rfl rfl trivial rfl rfl rfl rfl ⟨13, #[], #[], rfl, callable_13, fun w hw => ⟨_, hw.satV, raster_Turn_walk (OwnE.rd (E := (I1 .i64)) (k := 1) (fun _ => rfl) hL66 (fun _ hx => hw.memV (i := 8) rfl hx)) hc74⟩⟩ (fun v79 L78 hq => ?_)
        obtain ⟨a75, qa75, c76, rfl, hL78⟩ := hq
        obtain rfl := OwnE.qlen hL78
        refine WO.cls (C' := St w0 m m [[⟨b2, 24, [.int .i64 p0_0, .int .i64 p0_1, .int .i64 p0_2, .slice a_p0_3 p0_3.length c_p0_3]⟩], [⟨b6, 24, [.int .i64 p0_0, .int .i64 p0_1, .int .i64 p0_2, .slice a_p0_3 p0_3.length c_p0_3]⟩], L20, [⟨b22, 24, [.int .i64 y11, .int .i64 y12, .int .i64 y13, .slice a17 ((y14).length) c18]⟩], L32, [⟨b34, 24, [.int .i64 y23, .int .i64 y24, .int .i64 y25, .slice a29 ((y26).length) c30]⟩], L54, [⟨b56, 24, [.int .i64 y45, .int .i64 y46, .int .i64 y47, .slice a51 ((y48).length) c52]⟩], L66, [⟨b68, 24, [.int .i64 y57, .int .i64 y58, .int .i64 y59, .slice a63 ((y60).length) c64]⟩], L78]) (fun _ h => h) ?_
        refine WO_pure tbok 3 [(1, .pointer (some ⟨b2, 0, none⟩)), (2, .bool false), (3, .pointer (some ⟨b22, 0, none⟩)), (4, .int .i64 y15), (5, .pointer (some ⟨b34, 0, none⟩)), (6, .int .i64 y27), (9, .int .i64 y49), (10, .pointer (some ⟨b68, 0, none⟩)), (11, .int .i64 y61), (71, .agg #[.int .i64 y69, .int .i64 y70, .int .i64 y71, .slice a75 ((y72).length) c76]), (72, .int .i64 y73)] rfl ⟨rfl, rfl, rfl, rfl, rfl, rfl, rfl, rfl, rfl, rfl, rfl, trivial⟩ ?_
        refine WO_alloc tbok [.int .i64 0, .int .i64 0, .int .i64 0, .slice none 0 0] rfl rfl trivial rfl rfl rfl rfl (fun b80 => ?_)
        refine WO.cls (C' := St w0 m m [[⟨b2, 24, [.int .i64 p0_0, .int .i64 p0_1, .int .i64 p0_2, .slice a_p0_3 p0_3.length c_p0_3]⟩], [⟨b6, 24, [.int .i64 p0_0, .int .i64 p0_1, .int .i64 p0_2, .slice a_p0_3 p0_3.length c_p0_3]⟩], L20, [⟨b22, 24, [.int .i64 y11, .int .i64 y12, .int .i64 y13, .slice a17 ((y14).length) c18]⟩], L32, [⟨b34, 24, [.int .i64 y23, .int .i64 y24, .int .i64 y25, .slice a29 ((y26).length) c30]⟩], L54, [⟨b56, 24, [.int .i64 y45, .int .i64 y46, .int .i64 y47, .slice a51 ((y48).length) c52]⟩], L66, [⟨b68, 24, [.int .i64 y57, .int .i64 y58, .int .i64 y59, .slice a63 ((y60).length) c64]⟩], L78, [⟨b80, 24, [.int .i64 0, .int .i64 0, .int .i64 0, .slice none 0 0]⟩]]) (fun _ h => h) ?_
        refine WO_storeB tbok 11 [.int .i64 y69, .int .i64 y70, .int .i64 y71, .slice a75 ((y72).length) c76] rfl rfl rfl rfl rfl rfl rfl ?_
        refine WO.cls (C' := St w0 m m [[⟨b2, 24, [.int .i64 p0_0, .int .i64 p0_1, .int .i64 p0_2, .slice a_p0_3 p0_3.length c_p0_3]⟩], [⟨b6, 24, [.int .i64 p0_0, .int .i64 p0_1, .int .i64 p0_2, .slice a_p0_3 p0_3.length c_p0_3]⟩], L20, [⟨b22, 24, [.int .i64 y11, .int .i64 y12, .int .i64 y13, .slice a17 ((y14).length) c18]⟩], L32, [⟨b34, 24, [.int .i64 y23, .int .i64 y24, .int .i64 y25, .slice a29 ((y26).length) c30]⟩], L54, [⟨b56, 24, [.int .i64 y45, .int .i64 y46, .int .i64 y47, .slice a51 ((y48).length) c52]⟩], L66, [⟨b68, 24, [.int .i64 y57, .int .i64 y58, .int .i64 y59, .slice a63 ((y60).length) c64]⟩], L78, [⟨b80, 24, [.int .i64 y69, .int .i64 y70, .int .i64 y71, .slice a75 ((y72).length) c76]⟩]]) (fun _ h => h) ?_
        refine WO_pure tbok 1 [(1, .pointer (some ⟨b2, 0, none⟩)), (2, .bool false), (3, .pointer (some ⟨b22, 0, none⟩)), (4, .int .i64 y15), (5, .pointer (some ⟨b34, 0, none⟩)), (6, .int .i64 y27), (9, .int .i64 y49), (10, .pointer (some ⟨b68, 0, none⟩)), (11, .int .i64 y61), (12, .pointer (some ⟨b80, 0, none⟩)), (13, .int .i64 y73)] rfl ⟨rfl, rfl, rfl, rfl, rfl, rfl, rfl, rfl, rfl, rfl, rfl, trivial⟩ ?_
        refine WO_end ?_
        refine WK_seq ?_
        refine WK_region ?_
        refine WO_loadB tbok 5 rfl rfl rfl rfl (fun _ h => h) rfl rfl ?_
        obtain ⟨⟨y81, y82, y83, y84, y85⟩, hc86, hm⟩ := bind_some hm
        refine WO_call1 (raster_Mirror_Q (y81, y82, y83, y84, y85)) rfl rfl trivial rfl rfl rfl rfl ⟨14, #[], #[], rfl, callable_14, fun w hw => ⟨_, hw.satV, raster_Mirror_walk (OwnE.rd (E := (I1 .i64)) (k := 1) (fun _ => rfl) hL32 (fun _ hx => hw.memV (i := 4) rfl hx)) hc86⟩⟩ (fun v91 L90 hq => ?_)
        obtain ⟨a87, qa87, c88, rfl, hL90⟩ := hq
        obtain rfl := OwnE.qlen hL90
        refine WO.cls (C' := St w0 m m [[⟨b2, 24, [.int .i64 p0_0, .int .i64 p0_1, .int .i64 p0_2, .slice a_p0_3 p0_3.length c_p0_3]⟩], [⟨b6, 24, [.int .i64 p0_0, .int .i64 p0_1, .int .i64 p0_2, .slice a_p0_3 p0_3.length c_p0_3]⟩], L20, [⟨b22, 24, [.int .i64 y11, .int .i64 y12, .int .i64 y13, .slice a17 ((y14).length) c18]⟩], L32, [⟨b34, 24, [.int .i64 y23, .int .i64 y24, .int .i64 y25, .slice a29 ((y26).length) c30]⟩], L54, [⟨b56, 24, [.int .i64 y45, .int .i64 y46, .int .i64 y47, .slice a51 ((y48).length) c52]⟩], L66, [⟨b68, 24, [.int .i64 y57, .int .i64 y58, .int .i64 y59, .slice a63 ((y60).length) c64]⟩], L78, [⟨b80, 24, [.int .i64 y69, .int .i64 y70, .int .i64 y71, .slice a75 ((y72).length) c76]⟩], L90]) (fun _ h => h) ?_
        refine WO_pure tbok 3 [(1, .pointer (some ⟨b2, 0, none⟩)), (2, .bool false), (3, .pointer (some ⟨b22, 0, none⟩)), (4, .int .i64 y15), (5, .pointer (some ⟨b34, 0, none⟩)), (6, .int .i64 y27), (9, .int .i64 y49), (10, .pointer (some ⟨b68, 0, none⟩)), (11, .int .i64 y61), (12, .pointer (some ⟨b80, 0, none⟩)), (13, .int .i64 y73), (76, .agg #[.int .i64 y81, .int .i64 y82, .int .i64 y83, .slice a87 ((y84).length) c88]), (77, .int .i64 y85)] rfl ⟨rfl, rfl, rfl, rfl, rfl, rfl, rfl, rfl, rfl, rfl, rfl, rfl, rfl, trivial⟩ ?_
        refine WO_alloc tbok [.int .i64 0, .int .i64 0, .int .i64 0, .slice none 0 0] rfl rfl trivial rfl rfl rfl rfl (fun b92 => ?_)
        refine WO.cls (C' := St w0 m m [[⟨b2, 24, [.int .i64 p0_0, .int .i64 p0_1, .int .i64 p0_2, .slice a_p0_3 p0_3.length c_p0_3]⟩], [⟨b6, 24, [.int .i64 p0_0, .int .i64 p0_1, .int .i64 p0_2, .slice a_p0_3 p0_3.length c_p0_3]⟩], L20, [⟨b22, 24, [.int .i64 y11, .int .i64 y12, .int .i64 y13, .slice a17 ((y14).length) c18]⟩], L32, [⟨b34, 24, [.int .i64 y23, .int .i64 y24, .int .i64 y25, .slice a29 ((y26).length) c30]⟩], L54, [⟨b56, 24, [.int .i64 y45, .int .i64 y46, .int .i64 y47, .slice a51 ((y48).length) c52]⟩], L66, [⟨b68, 24, [.int .i64 y57, .int .i64 y58, .int .i64 y59, .slice a63 ((y60).length) c64]⟩], L78, [⟨b80, 24, [.int .i64 y69, .int .i64 y70, .int .i64 y71, .slice a75 ((y72).length) c76]⟩], L90, [⟨b92, 24, [.int .i64 0, .int .i64 0, .int .i64 0, .slice none 0 0]⟩]]) (fun _ h => h) ?_
        refine WO_storeB tbok 13 [.int .i64 y81, .int .i64 y82, .int .i64 y83, .slice a87 ((y84).length) c88] rfl rfl rfl rfl rfl rfl rfl ?_
        refine WO.cls (C' := St w0 m m [[⟨b2, 24, [.int .i64 p0_0, .int .i64 p0_1, .int .i64 p0_2, .slice a_p0_3 p0_3.length c_p0_3]⟩], [⟨b6, 24, [.int .i64 p0_0, .int .i64 p0_1, .int .i64 p0_2, .slice a_p0_3 p0_3.length c_p0_3]⟩], L20, [⟨b22, 24, [.int .i64 y11, .int .i64 y12, .int .i64 y13, .slice a17 ((y14).length) c18]⟩], L32, [⟨b34, 24, [.int .i64 y23, .int .i64 y24, .int .i64 y25, .slice a29 ((y26).length) c30]⟩], L54, [⟨b56, 24, [.int .i64 y45, .int .i64 y46, .int .i64 y47, .slice a51 ((y48).length) c52]⟩], L66, [⟨b68, 24, [.int .i64 y57, .int .i64 y58, .int .i64 y59, .slice a63 ((y60).length) c64]⟩], L78, [⟨b80, 24, [.int .i64 y69, .int .i64 y70, .int .i64 y71, .slice a75 ((y72).length) c76]⟩], L90, [⟨b92, 24, [.int .i64 y81, .int .i64 y82, .int .i64 y83, .slice a87 ((y84).length) c88]⟩]]) (fun _ h => h) ?_
        refine WO_pure tbok 1 [(1, .pointer (some ⟨b2, 0, none⟩)), (2, .bool false), (3, .pointer (some ⟨b22, 0, none⟩)), (4, .int .i64 y15), (5, .pointer (some ⟨b34, 0, none⟩)), (6, .int .i64 y27), (9, .int .i64 y49), (10, .pointer (some ⟨b68, 0, none⟩)), (11, .int .i64 y61), (12, .pointer (some ⟨b80, 0, none⟩)), (13, .int .i64 y73), (14, .pointer (some ⟨b92, 0, none⟩)), (15, .int .i64 y85)] rfl ⟨rfl, rfl, rfl, rfl, rfl, rfl, rfl, rfl, rfl, rfl, rfl, rfl, rfl, trivial⟩ ?_
        refine WO_end ?_
        refine WK_seq ?_
        refine WK_region ?_
        refine WO_loadB tbok 5 rfl rfl rfl rfl (fun _ h => h) rfl rfl ?_
        obtain ⟨⟨y93, y94, y95, y96, y97⟩, hc98, hm⟩ := bind_some hm
        refine WO_call1 (raster_Turn_Q (y93, y94, y95, y96, y97)) rfl rfl trivial rfl rfl rfl rfl ⟨13, #[], #[], rfl, callable_13, fun w hw => ⟨_, hw.satV, raster_Turn_walk (OwnE.rd (E := (I1 .i64)) (k := 1) (fun _ => rfl) hL32 (fun _ hx => hw.memV (i := 4) rfl hx)) hc98⟩⟩ (fun v103 L102 hq => ?_)
        obtain ⟨a99, qa99, c100, rfl, hL102⟩ := hq
        obtain rfl := OwnE.qlen hL102
        refine WO.cls (C' := St w0 m m [[⟨b2, 24, [.int .i64 p0_0, .int .i64 p0_1, .int .i64 p0_2, .slice a_p0_3 p0_3.length c_p0_3]⟩], [⟨b6, 24, [.int .i64 p0_0, .int .i64 p0_1, .int .i64 p0_2, .slice a_p0_3 p0_3.length c_p0_3]⟩], L20, [⟨b22, 24, [.int .i64 y11, .int .i64 y12, .int .i64 y13, .slice a17 ((y14).length) c18]⟩], L32, [⟨b34, 24, [.int .i64 y23, .int .i64 y24, .int .i64 y25, .slice a29 ((y26).length) c30]⟩], L54, [⟨b56, 24, [.int .i64 y45, .int .i64 y46, .int .i64 y47, .slice a51 ((y48).length) c52]⟩], L66, [⟨b68, 24, [.int .i64 y57, .int .i64 y58, .int .i64 y59, .slice a63 ((y60).length) c64]⟩], L78, [⟨b80, 24, [.int .i64 y69, .int .i64 y70, .int .i64 y71, .slice a75 ((y72).length) c76]⟩], L90, [⟨b92, 24, [.int .i64 y81, .int .i64 y82, .int .i64 y83, .slice a87 ((y84).length) c88]⟩], L102]) (fun _ h => h) ?_
        refine WO_pure tbok 3 [(1, .pointer (some ⟨b2, 0, none⟩)), (2, .bool false), (3, .pointer (some ⟨b22, 0, none⟩)), (4, .int .i64 y15), (5, .pointer (some ⟨b34, 0, none⟩)), (6, .int .i64 y27), (9, .int .i64 y49), (10, .pointer (some ⟨b68, 0, none⟩)), (11, .int .i64 y61), (12, .pointer (some ⟨b80, 0, none⟩)), (13, .int .i64 y73), (14, .pointer (some ⟨b92, 0, none⟩)), (15, .int .i64 y85), (81, .agg #[.int .i64 y93, .int .i64 y94, .int .i64 y95, .slice a99 ((y96).length) c100]), (82, .int .i64 y97)] rfl ⟨rfl, rfl, rfl, rfl, rfl, rfl, rfl, rfl, rfl, rfl, rfl, rfl, rfl, rfl, rfl, trivial⟩ ?_
        refine WO_alloc tbok [.int .i64 0, .int .i64 0, .int .i64 0, .slice none 0 0] rfl rfl trivial rfl rfl rfl rfl (fun b104 => ?_)
        refine WO.cls (C' := St w0 m m [[⟨b2, 24, [.int .i64 p0_0, .int .i64 p0_1, .int .i64 p0_2, .slice a_p0_3 p0_3.length c_p0_3]⟩], [⟨b6, 24, [.int .i64 p0_0, .int .i64 p0_1, .int .i64 p0_2, .slice a_p0_3 p0_3.length c_p0_3]⟩], L20, [⟨b22, 24, [.int .i64 y11, .int .i64 y12, .int .i64 y13, .slice a17 ((y14).length) c18]⟩], L32, [⟨b34, 24, [.int .i64 y23, .int .i64 y24, .int .i64 y25, .slice a29 ((y26).length) c30]⟩], L54, [⟨b56, 24, [.int .i64 y45, .int .i64 y46, .int .i64 y47, .slice a51 ((y48).length) c52]⟩], L66, [⟨b68, 24, [.int .i64 y57, .int .i64 y58, .int .i64 y59, .slice a63 ((y60).length) c64]⟩], L78, [⟨b80, 24, [.int .i64 y69, .int .i64 y70, .int .i64 y71, .slice a75 ((y72).length) c76]⟩], L90, [⟨b92, 24, [.int .i64 y81, .int .i64 y82, .int .i64 y83, .slice a87 ((y84).length) c88]⟩], L102, [⟨b104, 24, [.int .i64 0, .int .i64 0, .int .i64 0, .slice none 0 0]⟩]]) (fun _ h => h) ?_
        refine WO_storeB tbok 15 [.int .i64 y93, .int .i64 y94, .int .i64 y95, .slice a99 ((y96).length) c100] rfl rfl rfl rfl rfl rfl rfl ?_
        refine WO.cls (C' := St w0 m m [[⟨b2, 24, [.int .i64 p0_0, .int .i64 p0_1, .int .i64 p0_2, .slice a_p0_3 p0_3.length c_p0_3]⟩], [⟨b6, 24, [.int .i64 p0_0, .int .i64 p0_1, .int .i64 p0_2, .slice a_p0_3 p0_3.length c_p0_3]⟩], L20, [⟨b22, 24, [.int .i64 y11, .int .i64 y12, .int .i64 y13, .slice a17 ((y14).length) c18]⟩], L32, [⟨b34, 24, [.int .i64 y23, .int .i64 y24, .int .i64 y25, .slice a29 ((y26).length) c30]⟩], L54, [⟨b56, 24, [.int .i64 y45, .int .i64 y46, .int .i64 y47, .slice a51 ((y48).length) c52]⟩], L66, [⟨b68, 24, [.int .i64 y57, .int .i64 y58, .int .i64 y59, .slice a63 ((y60).length) c64]⟩], L78, [⟨b80, 24, [.int .i64 y69, .int .i64 y70, .int .i64 y71, .slice a75 ((y72).length) c76]⟩], L90, [⟨b92, 24, [.int .i64 y81, .int .i64 y82, .int .i64 y83, .slice a87 ((y84).length) c88]⟩], L102, [⟨b104, 24, [.int .i64 y93, .int .i64 y94, .int .i64 y95, .slice a99 ((y96).length) c100]⟩]]) (fun _ h => h) ?_
        refine WO_pure tbok 1 [(1, .pointer (some ⟨b2, 0, none⟩)), (2, .bool false), (3, .pointer (some ⟨b22, 0, none⟩)), (4, .int .i64 y15), (5, .pointer (some ⟨b34, 0, none⟩)), (6, .int .i64 y27), (9, .int .i64 y49), (10, .pointer (some ⟨b68, 0, none⟩)), (11, .int .i64 y61), (12, .pointer (some ⟨b80, 0, none⟩)), (13, .int .i64 y73), (14, .pointer (some ⟨b92, 0, none⟩)), (15, .int .i64 y85), (16, .pointer (some ⟨b104, 0, none⟩)), (17, .int .i64 y97)] rfl ⟨rfl, rfl, rfl, rfl, rfl, rfl, rfl, rfl, rfl, rfl, rfl, rfl, rfl, rfl, rfl, trivial⟩ ?_
        refine WO_end ?_
        refine WK_seq ?_
        refine WK_region ?_
        refine WO_loadB tbok 9 rfl rfl rfl rfl (fun _ h => h) rfl rfl ?_
        obtain ⟨⟨y105, y106, y107, y108, y109⟩, hc110, hm⟩ := bind_some hm
        refine WO_call1 (raster_Mirror_Q (y105, y106, y107, y108, y109)) rfl rfl trivial rfl rfl rfl rfl ⟨14, #[], #[], rfl, callable_14, fun w hw => ⟨_, hw.satV, raster_Mirror_walk (OwnE.rd (E := (I1 .i64)) (k := 1) (fun _ => rfl) hL66 (fun _ hx => hw.memV (i := 8) rfl hx)) hc110⟩⟩ (fun v115 L114 hq => ?_)
        obtain ⟨a111, qa111, c112, rfl, hL114⟩ := hq
        obtain rfl := OwnE.qlen hL114
        refine WO.cls (C' := St w0 m m [[⟨b2, 24, [.int .i64 p0_0, .int .i64 p0_1, .int .i64 p0_2, .slice a_p0_3 p0_3.length c_p0_3]⟩], [⟨b6, 24, [.int .i64 p0_0, .int .i64 p0_1, .int .i64 p0_2, .slice a_p0_3 p0_3.length c_p0_3]⟩], L20, [⟨b22, 24, [.int .i64 y11, .int .i64 y12, .int .i64 y13, .slice a17 ((y14).length) c18]⟩], L32, [⟨b34, 24, [.int .i64 y23, .int .i64 y24, .int .i64 y25, .slice a29 ((y26).length) c30]⟩], L54, [⟨b56, 24, [.int .i64 y45, .int .i64 y46, .int .i64 y47, .slice a51 ((y48).length) c52]⟩], L66, [⟨b68, 24, [.int .i64 y57, .int .i64 y58, .int .i64 y59, .slice a63 ((y60).length) c64]⟩], L78, [⟨b80, 24, [.int .i64 y69, .int .i64 y70, .int .i64 y71, .slice a75 ((y72).length) c76]⟩], L90, [⟨b92, 24, [.int .i64 y81, .int .i64 y82, .int .i64 y83, .slice a87 ((y84).length) c88]⟩], L102, [⟨b104, 24, [.int .i64 y93, .int .i64 y94, .int .i64 y95, .slice a99 ((y96).length) c100]⟩], L114]) (fun _ h => h) ?_
        refine WO_pure tbok 3 [(1, .pointer (some ⟨b2, 0, none⟩)), (2, .bool false), (3, .pointer (some ⟨b22, 0, none⟩)), (4, .int .i64 y15), (5, .pointer (some ⟨b34, 0, none⟩)), (6, .int .i64 y27), (9, .int .i64 y49), (11, .int .i64 y61), (12, .pointer (some ⟨b80, 0, none⟩)), (13, .int .i64 y73), (14, .pointer (some ⟨b92, 0, none⟩)), (15, .int .i64 y85), (16, .pointer (some ⟨b104, 0, none⟩)), (17, .int .i64 y97), (86, .agg #[.int .i64 y105, .int .i64 y106, .int .i64 y107, .slice a111 ((y108).length) c112]), (87, .int .i64 y109)] rfl ⟨rfl, rfl, rfl, rfl, rfl, rfl, rfl, rfl, rfl, rfl, rfl, rfl, rfl, rfl, rfl, rfl, trivial⟩ ?_
        refine WO_alloc tbok [.int .i64 0, .int .i64 0, .int .i64 0, .slice none 0 0] rfl rfl trivial rfl rfl rfl rfl (fun b116 => ?_)
        refine WO.cls (C' := St w0 m m [[⟨b2, 24, [.int .i64 p0_0, .int .i64 p0_1, .int .i64 p0_2, .slice a_p0_3 p0_3.length c_p0_3]⟩], [⟨b6, 24, [.int .i64 p0_0, .int .i64 p0_1, .int .i64 p0_2, .slice a_p0_3 p0_3.length c_p0_3]⟩], L20, [⟨b22, 24, [.int .i64 y11, .int .i64 y12, .int .i64 y13, .slice a17 ((y14).length) c18]⟩], L32, [⟨b34, 24, [.int .i64 y23, .int .i64 y24, .int .i64 y25, .slice a29 ((y26).length) c30]⟩], L54, [⟨b56, 24, [.int .i64 y45, .int .i64 y46, .int .i64 y47, .slice a51 ((y48).length) c52]⟩], L66, [⟨b68, 24, [.int .i64 y57, .int .i64 y58, .int .i64 y59, .slice a63 ((y60).length) c64]⟩], L78, [⟨b80, 24, [.int .i64 y69, .int .i64 y70, .int .i64 y71, .slice a75 ((y72).length) c76]⟩], L90, [⟨b92, 24, [.int .i64 y81, .int .i64 y82, .int .i64 y83, .slice a87 ((y84).length) c88]⟩], L102, [⟨b104, 24, [.int .i64 y93, .int .i64 y94, .int .i64 y95, .slice a99 ((y96).length) c100]⟩], L114, [⟨b116, 24, [.int .i64 0, .int .i64 0, .int .i64 0, .slice none 0 0]⟩]]) (fun _ h => h) ?_
        refine WO_storeB tbok 17 [.int .i64 y105, .int .i64 y106, .int .i64 y107, .slice a111 ((y108).length) c112] rfl rfl rfl rfl rfl rfl rfl ?_
        refine WO.cls (C' := St w0 m m [[⟨b2, 24, [.int .i64 p0_0, .int .i64 p0_1, .int .i64 p0_2, .slice a_p0_3 p0_3.length c_p0_3]⟩], [⟨b6, 24, [.int .i64 p0_0, .int .i64 p0_1, .int .i64 p0_2, .slice a_p0_3 p0_3.length c_p0_3]⟩], L20, [⟨b22, 24, [.int .i64 y11, .int .i64 y12, .int .i64 y13, .slice a17 ((y14).length) c18]⟩], L32, [⟨b34, 24, [.int .i64 y23, .int .i64 y24, .int .i64 y25, .slice a29 ((y26).length) c30]⟩], L54, [⟨b56, 24, [.int .i64 y45, .int .i64 y46, .int .i64 y47, .slice a51 ((y48).length) c52]⟩], L66, [⟨b68, 24, [.int .i64 y57, .int .i64 y58, .int .i64 y59, .slice a63 ((y60).length) c64]⟩], L78, [⟨b80, 24, [.int .i64 y69, .int .i64 y70, .int .i64 y71, .slice a75 ((y72).length) c76]⟩], L90, [⟨b92, 24, [.int .i64 y81, .int .i64 y82, .int .i64 y83, .slice a87 ((y84).length) c88]⟩], L102, [⟨b104, 24, [.int .i64 y93, .int .i64 y94, .int .i64 y95, .slice a99 ((y96).length) c100]⟩], L114, [⟨b116, 24, [.int .i64 y105, .int .i64 y106, .int .i64 y107, .slice a111 ((y108).length) c112]⟩]]) (fun _ h => h) ?_
        refine WO_pure tbok 1 [(1, .pointer (some ⟨b2, 0, none⟩)), (2, .bool false), (3, .pointer (some ⟨b22, 0, none⟩)), (4, .int .i64 y15), (5, .pointer (some ⟨b34, 0, none⟩)), (6, .int .i64 y27), (9, .int .i64 y49), (11, .int .i64 y61), (12, .pointer (some ⟨b80, 0, none⟩)), (13, .int .i64 y73), (14, .pointer (some ⟨b92, 0, none⟩)), (15, .int .i64 y85), (16, .pointer (some ⟨b104, 0, none⟩)), (17, .int .i64 y97), (18, .pointer (some ⟨b116, 0, none⟩)), (19, .int .i64 y109)] rfl ⟨rfl, rfl, rfl, rfl, rfl, rfl, rfl, rfl, rfl, rfl, rfl, rfl, rfl, rfl, rfl, rfl, trivial⟩ ?_
        refine WO_end ?_
        refine WK_seq ?_
        refine WK_seq ?_
        refine WK_region ?_
        refine WO_pure tbok 8 [(1, .pointer (some ⟨b2, 0, none⟩)), (2, .bool false), (3, .pointer (some ⟨b22, 0, none⟩)), (5, .pointer (some ⟨b34, 0, none⟩)), (12, .pointer (some ⟨b80, 0, none⟩)), (14, .pointer (some ⟨b92, 0, none⟩)), (16, .pointer (some ⟨b104, 0, none⟩)), (18, .pointer (some ⟨b116, 0, none⟩)), (88, .int .i64 y15), (89, .int .i64 y27), (90, .int .i64 y49), (91, .int .i64 y61), (92, .int .i64 y73), (93, .int .i64 y85), (94, .int .i64 y97), (95, .int .i64 y109)] rfl ⟨rfl, rfl, rfl, rfl, rfl, rfl, rfl, rfl, rfl, rfl, rfl, rfl, rfl, rfl, rfl, rfl, trivial⟩ ?_
        refine WO_bslice (E := (I1 .i64)) tbok (fun _ => rfl) (by decide) [.int .i64 y15, .int .i64 y27, .int .i64 y49, .int .i64 y61, .int .i64 y73, .int .i64 y85, .int .i64 y97, .int .i64 y109] ([y15, y27, y49, y61, y73, y85, y97, y109] : List Int) rfl rfl trivial rfl rfl rfl rfl rfl rfl rfl rfl rfl rfl rfl rfl (fun b117 hb117 => ?_)
        refine WO.cls (C' := St w0 m m [[⟨b2, 24, [.int .i64 p0_0, .int .i64 p0_1, .int .i64 p0_2, .slice a_p0_3 p0_3.length c_p0_3]⟩], [⟨b6, 24, [.int .i64 p0_0, .int .i64 p0_1, .int .i64 p0_2, .slice a_p0_3 p0_3.length c_p0_3]⟩], L20, [⟨b22, 24, [.int .i64 y11, .int .i64 y12, .int .i64 y13, .slice a17 ((y14).length) c18]⟩], L32, [⟨b34, 24, [.int .i64 y23, .int .i64 y24, .int .i64 y25, .slice a29 ((y26).length) c30]⟩], L54, [⟨b56, 24, [.int .i64 y45, .int .i64 y46, .int .i64 y47, .slice a51 ((y48).length) c52]⟩], L66, [⟨b68, 24, [.int .i64 y57, .int .i64 y58, .int .i64 y59, .slice a63 ((y60).length) c64]⟩], L78, [⟨b80, 24, [.int .i64 y69, .int .i64 y70, .int .i64 y71, .slice a75 ((y72).length) c76]⟩], L90, [⟨b92, 24, [.int .i64 y81, .int .i64 y82, .int .i64 y83, .slice a87 ((y84).length) c88]⟩], L102, [⟨b104, 24, [.int .i64 y93, .int .i64 y94, .int .i64 y95, .slice a99 ((y96).length) c100]⟩], L114, [⟨b116, 24, [.int .i64 y105, .int .i64 y106, .int .i64 y107, .slice a111 ((y108).length) c112]⟩], [⟨b117, 27, ([y15, y27, y49, y61, y73, y85, y97, y109] : List Int).flatMap (I1 .i64)⟩]]) (fun _ h => h) ?_
        refine WO_pure tbok 2 [(1, .pointer (some ⟨b2, 0, none⟩)), (2, .bool false), (3, .pointer (some ⟨b22, 0, none⟩)), (5, .pointer (some ⟨b34, 0, none⟩)), (12, .pointer (some ⟨b80, 0, none⟩)), (14, .pointer (some ⟨b92, 0, none⟩)), (16, .pointer (some ⟨b104, 0, none⟩)), (18, .pointer (some ⟨b116, 0, none⟩)), (96, .slice (some ⟨b117, 0, none⟩) 8 8), (97, .int .i64 8), (98, .int .i64 0)] rfl ⟨rfl, rfl, rfl, rfl, rfl, rfl, rfl, rfl, rfl, rfl, rfl, trivial⟩ ?_
        refine WO_end ?_
        obtain ⟨x120, hx121, hm⟩ := bind_some hm
        refine WK_join (β := Unit × Unit) (fun p => Sum.inr p.1 = x120) (fun p => [(1, .pointer (some ⟨b2, 0, none⟩)), (2, .bool false), (3, .pointer (some ⟨b22, 0, none⟩)), (5, .pointer (some ⟨b34, 0, none⟩)), (12, .pointer (some ⟨b80, 0, none⟩)), (14, .pointer (some ⟨b92, 0, none⟩)), (16, .pointer (some ⟨b104, 0, none⟩)), (18, .pointer (some ⟨b116, 0, none⟩))]) (fun p => St w0 m m [[⟨b2, 24, [.int .i64 p0_0, .int .i64 p0_1, .int .i64 p0_2, .slice a_p0_3 p0_3.length c_p0_3]⟩], [⟨b6, 24, [.int .i64 p0_0, .int .i64 p0_1, .int .i64 p0_2, .slice a_p0_3 p0_3.length c_p0_3]⟩], L20, [⟨b22, 24, [.int .i64 y11, .int .i64 y12, .int .i64 y13, .slice a17 ((y14).length) c18]⟩], L32, [⟨b34, 24, [.int .i64 y23, .int .i64 y24, .int .i64 y25, .slice a29 ((y26).length) c30]⟩], L54, [⟨b56, 24, [.int .i64 y45, .int .i64 y46, .int .i64 y47, .slice a51 ((y48).length) c52]⟩], L66, [⟨b68, 24, [.int .i64 y57, .int .i64 y58, .int .i64 y59, .slice a63 ((y60).length) c64]⟩], L78, [⟨b80, 24, [.int .i64 y69, .int .i64 y70, .int .i64 y71, .slice a75 ((y72).length) c76]⟩], L90, [⟨b92, 24, [.int .i64 y81, .int .i64 y82, .int .i64 y83, .slice a87 ((y84).length) c88]⟩], L102, [⟨b104, 24, [.int .i64 y93, .int .i64 y94, .int .i64 y95, .slice a99 ((y96).length) c100]⟩], L114, [⟨b116, 24, [.int .i64 y105, .int .i64 y106, .int .i64 y107, .slice a111 ((y108).length) c112]⟩], [⟨b117, 27, ([y15, y27, y49, y61, y73, y85, y97, y109] : List Int).flatMap (I1 .i64)⟩]]) ?_ (fun hk122 => ?_)
        · rintro ⟨⟨⟩, ⟨⟩⟩ hq128
          subst hq128
          refine WK.sub (e' := [(1, .pointer (some ⟨b2, 0, none⟩)), (2, .bool false), (3, .pointer (some ⟨b22, 0, none⟩)), (5, .pointer (some ⟨b34, 0, none⟩)), (12, .pointer (some ⟨b80, 0, none⟩)), (14, .pointer (some ⟨b92, 0, none⟩)), (16, .pointer (some ⟨b104, 0, none⟩)), (18, .pointer (some ⟨b116, 0, none⟩))]) ⟨rfl, rfl, rfl, rfl, rfl, rfl, rfl, rfl, trivial⟩ (WK.cls (C' := St w0 m m [[⟨b2, 24, [.int .i64 p0_0, .int .i64 p0_1, .int .i64 p0_2, .slice a_p0_3 p0_3.length c_p0_3]⟩], [⟨b6, 24, [.int .i64 p0_0, .int .i64 p0_1, .int .i64 p0_2, .slice a_p0_3 p0_3.length c_p0_3]⟩], L20, [⟨b22, 24, [.int .i64 y11, .int .i64 y12, .int .i64 y13, .slice a17 ((y14).length) c18]⟩], L32, [⟨b34, 24, [.int .i64 y23, .int .i64 y24, .int .i64 y25, .slice a29 ((y26).length) c30]⟩], L54, [⟨b56, 24, [.int .i64 y45, .int .i64 y46, .int .i64 y47, .slice a51 ((y48).length) c52]⟩], L66, [⟨b68, 24, [.int .i64 y57, .int .i64 y58, .int .i64 y59, .slice a63 ((y60).length) c64]⟩], L78, [⟨b80, 24, [.int .i64 y69, .int .i64 y70, .int .i64 y71, .slice a75 ((y72).length) c76]⟩], L90, [⟨b92, 24, [.int .i64 y81, .int .i64 y82, .int .i64 y83, .slice a87 ((y84).length) c88]⟩], L102, [⟨b104, 24, [.int .i64 y93, .int .i64 y94, .int .i64 y95, .slice a99 ((y96).length) c100]⟩], L114, [⟨b116, 24, [.int .i64 y105, .int .i64 y106, .int .i64 y107, .slice a111 ((y108).length) c112]⟩], [⟨b117, 27, ([y15, y27, y49, y61, y73, y85, y97, y109] : List Int).flatMap (I1 .i64)⟩]]) (fun _ h => h) ?_)
          refine WK_seq ?_
          refine WK_draw 26 [0, 1, 2, 3, 4, 5, 6, 7, 8, 9, 10, 11, 12, 13, 14, 15, 16, 17, 18, 19, 20, 21, 22, 23, 24, 25] follows_ok (by kernel_rfl) St_closed ?_
          refine WO_loadB tbok 3 rfl rfl rfl rfl (fun _ h => h) rfl rfl ?_
          refine WO_loadB tbok 0 rfl rfl rfl rfl (fun _ h => h) rfl rfl ?_
          obtain ⟨⟨y129, y130, y131, y132⟩, hc133, hm⟩ := bind_some hm
          refine WO_call1 (fiducialref13_Turn_Q (y129, y130, y131, y132)) rfl rfl St_closed rfl rfl rfl rfl ⟨18, #[], #[], rfl, callable_18, fun w hw => ⟨_, hw.sat, fiducialref13_Turn_walk h_p0_3 hc133⟩⟩ (fun v138 L137 hq => ?_)
          obtain ⟨a134, qa134, c135, rfl, hL137⟩ := hq
          obtain rfl := OwnE.qlen hL137
          refine WO.cls (C' := St w0 m m [[⟨b2, 24, [.int .i64 p0_0, .int .i64 p0_1, .int .i64 p0_2, .slice a_p0_3 p0_3.length c_p0_3]⟩], [⟨b6, 24, [.int .i64 p0_0, .int .i64 p0_1, .int .i64 p0_2, .slice a_p0_3 p0_3.length c_p0_3]⟩], L20, [⟨b22, 24, [.int .i64 y11, .int .i64 y12, .int .i64 y13, .slice a17 ((y14).length) c18]⟩], L32, [⟨b34, 24, [.int .i64 y23, .int .i64 y24, .int .i64 y25, .slice a29 ((y26).length) c30]⟩], L54, [⟨b56, 24, [.int .i64 y45, .int .i64 y46, .int .i64 y47, .slice a51 ((y48).length) c52]⟩], L66, [⟨b68, 24, [.int .i64 y57, .int .i64 y58, .int .i64 y59, .slice a63 ((y60).length) c64]⟩], L78, [⟨b80, 24, [.int .i64 y69, .int .i64 y70, .int .i64 y71, .slice a75 ((y72).length) c76]⟩], L90, [⟨b92, 24, [.int .i64 y81, .int .i64 y82, .int .i64 y83, .slice a87 ((y84).length) c88]⟩], L102, [⟨b104, 24, [.int .i64 y93, .int .i64 y94, .int .i64 y95, .slice a99 ((y96).length) c100]⟩], L114, [⟨b116, 24, [.int .i64 y105, .int .i64 y106, .int .i64 y107, .slice a111 ((y108).length) c112]⟩], [⟨b117, 27, ([y15, y27, y49, y61, y73, y85, y97, y109] : List Int).flatMap (I1 .i64)⟩], L137]) (fun _ h => h) ?_
          obtain ⟨y139, hc140, hm⟩ := bind_some hm
          refine WO_call0 (.bool y139) rfl rfl St_closed rfl rfl rfl rfl St_closed ⟨17, #[], #[], rfl, callable_17, fun w hw => ⟨_, hw.satV, fiducialref13_Equal_walk (OwnE.rd (E := (I1 .i64)) (k := 1) (fun _ => rfl) hL20 (fun _ hx => hw.memV (i := 2) rfl hx)) (OwnE.rd (E := (I1 .i64)) (k := 1) (fun _ => rfl) hL137 (fun _ hx => hw.memV (i := 19) rfl hx)) hc140⟩⟩ ?_
          refine WO_pure tbok 1 [(1, .pointer (some ⟨b2, 0, none⟩)), (2, .bool false), (5, .pointer (some ⟨b34, 0, none⟩)), (12, .pointer (some ⟨b80, 0, none⟩)), (14, .pointer (some ⟨b92, 0, none⟩)), (16, .pointer (some ⟨b104, 0, none⟩)), (18, .pointer (some ⟨b116, 0, none⟩)), (109, .bool y139)] rfl ⟨rfl, rfl, rfl, rfl, rfl, rfl, rfl, rfl, trivial⟩ ?_
          refine WO_split (d := 109) (b := y139) rfl (fun hb141 => ?_) (fun hb141 => ?_)
          · have hm := ifT hb141 hm
            refine WO_loadB tbok 5 rfl rfl rfl rfl (fun _ h => h) rfl rfl ?_
            refine WO_loadB tbok 0 rfl rfl rfl rfl (fun _ h => h) rfl rfl ?_
            obtain ⟨⟨y142, y143, y144, y145⟩, hc146, hm⟩ := bind_some hm
            refine WO_call1 (fiducialref13_Mirror_Q (y142, y143, y144, y145)) rfl rfl St_closed rfl rfl rfl rfl ⟨19, #[], #[], rfl, callable_19, fun w hw => ⟨_, hw.sat, fiducialref13_Mirror_walk h_p0_3 hc146⟩⟩ (fun v151 L150 hq => ?_)
            obtain ⟨a147, qa147, c148, rfl, hL150⟩ := hq
            obtain rfl := OwnE.qlen hL150
            refine WO.cls (C' := St w0 m m [[⟨b2, 24, [.int .i64 p0_0, .int .i64 p0_1, .int .i64 p0_2, .slice a_p0_3 p0_3.length c_p0_3]⟩], [⟨b6, 24, [.int .i64 p0_0, .int .i64 p0_1, .int .i64 p0_2, .slice a_p0_3 p0_3.length c_p0_3]⟩], L20, [⟨b22, 24, [.int .i64 y11, .int .i64 y12, .int .i64 y13, .slice a17 ((y14).length) c18]⟩], L32, [⟨b34, 24, [.int .i64 y23, .int .i64 y24, .int .i64 y25, .slice a29 ((y26).length) c30]⟩], L54, [⟨b56, 24, [.int .i64 y45, .int .i64 y46, .int .i64 y47, .slice a51 ((y48).length) c52]⟩], L66, [⟨b68, 24, [.int .i64 y57, .int .i64 y58, .int .i64 y59, .slice a63 ((y60).length) c64]⟩], L78, [⟨b80, 24, [.int .i64 y69, .int .i64 y70, .int .i64 y71, .slice a75 ((y72).length) c76]⟩], L90, [⟨b92, 24, [.int .i64 y81, .int .i64 y82, .int .i64 y83, .slice a87 ((y84).length) c88]⟩], L102, [⟨b104, 24, [.int .i64 y93, .int .i64 y94, .int .i64 y95, .slice a99 ((y96).length) c100]⟩], L114, [⟨b116, 24, [.int .i64 y105, .int .i64 y106, .int .i64 y107, .slice a111 ((y108).length) c112]⟩], [⟨b117, 27, ([y15, y27, y49, y61, y73, y85, y97, y109] : List Int).flatMap (I1 .i64)⟩], L137, L150]) (fun _ h => h) ?_
            obtain ⟨y152, hc153, hm⟩ := bind_some hm
            refine WO_call0 (.bool y152) rfl rfl St_closed rfl rfl rfl rfl St_closed ⟨17, #[], #[], rfl, callable_17, fun w hw => ⟨_, hw.satV, fiducialref13_Equal_walk (OwnE.rd (E := (I1 .i64)) (k := 1) (fun _ => rfl) hL32 (fun _ hx => hw.memV (i := 4) rfl hx)) (OwnE.rd (E := (I1 .i64)) (k := 1) (fun _ => rfl) hL150 (fun _ hx => hw.memV (i := 20) rfl hx)) hc153⟩⟩ ?_
            refine WO_pure tbok 2 [(1, .pointer (some ⟨b2, 0, none⟩)), (2, .bool false), (12, .pointer (some ⟨b80, 0, none⟩)), (14, .pointer (some ⟨b92, 0, none⟩)), (16, .pointer (some ⟨b104, 0, none⟩)), (18, .pointer (some ⟨b116, 0, none⟩)), (115, .bool y152)] rfl ⟨rfl, rfl, rfl, rfl, rfl, rfl, rfl, trivial⟩ ?_
            refine WO_split (d := 115) (b := y152) rfl (fun hb154 => ?_) (fun hb154 => ?_)
            · have hm := ifT hb154 hm
              refine WO_loadB tbok 11 rfl rfl rfl rfl (fun _ h => h) rfl rfl ?_
              refine WO_loadB tbok 0 rfl rfl rfl rfl (fun _ h => h) rfl rfl ?_
              obtain ⟨y155, hc156, hm⟩ := bind_some hm
              refine WO_call0 (.bool y155) rfl rfl St_closed rfl rfl rfl rfl St_closed ⟨17, #[], #[], rfl, callable_17, fun w hw => ⟨_, hw.satV, fiducialref13_Equal_walk (OwnE.rd (E := (I1 .i64)) (k := 1) (fun _ => rfl) hL78 (fun _ hx => hw.memV (i := 10) rfl hx)) (h_p0_3.mono (mono_FE _) hw.leV) hc156⟩⟩ ?_
              refine WO_pure tbok 2 [(1, .pointer (some ⟨b2, 0, none⟩)), (2, .bool false), (14, .pointer (some ⟨b92, 0, none⟩)), (16, .pointer (some ⟨b104, 0, none⟩)), (18, .pointer (some ⟨b116, 0, none⟩)), (120, .bool y155)] rfl ⟨rfl, rfl, rfl, rfl, rfl, rfl, trivial⟩ ?_
              refine WO_split (d := 120) (b := y155) rfl (fun hb157 => ?_) (fun hb157 => ?_)
              · have hm := ifT hb157 hm
                refine WO_loadB tbok 13 rfl rfl rfl rfl (fun _ h => h) rfl rfl ?_
                refine WO_loadB tbok 0 rfl rfl rfl rfl (fun _ h => h) rfl rfl ?_
                obtain ⟨y158, hc159, hm⟩ := bind_some hm
                refine WO_call0 (.bool y158) rfl rfl St_closed rfl rfl rfl rfl St_closed ⟨17, #[], #[], rfl, callable_17, fun w hw => ⟨_, hw.satV, fiducialref13_Equal_walk (OwnE.rd (E := (I1 .i64)) (k := 1) (fun _ => rfl) hL90 (fun _ hx => hw.memV (i := 12) rfl hx)) (h_p0_3.mono (mono_FE _) hw.leV) hc159⟩⟩ ?_
                refine WO_pure tbok 2 [(2, .bool false), (16, .pointer (some ⟨b104, 0, none⟩)), (18, .pointer (some ⟨b116, 0, none⟩)), (125, .bool y158)] rfl ⟨rfl, rfl, rfl, rfl, trivial⟩ ?_
                refine WO_split (d := 125) (b := y158) rfl (fun hb160 => ?_) (fun hb160 => ?_)
                · have hm := ifT hb160 hm
                  refine WO_loadB tbok 15 rfl rfl rfl rfl (fun _ h => h) rfl rfl ?_
                  refine WO_loadB tbok 17 rfl rfl rfl rfl (fun _ h => h) rfl rfl ?_
                  obtain ⟨y161, hc162, hm⟩ := bind_some hm
                  refine WO_call0 (.bool y161) rfl rfl St_closed rfl rfl rfl rfl St_closed ⟨17, #[], #[], rfl, callable_17, fun w hw => ⟨_, hw.satV, fiducialref13_Equal_walk (OwnE.rd (E := (I1 .i64)) (k := 1) (fun _ => rfl) hL102 (fun _ hx => hw.memV (i := 14) rfl hx)) (OwnE.rd (E := (I1 .i64)) (k := 1) (fun _ => rfl) hL114 (fun _ hx => hw.memV (i := 16) rfl hx)) hc162⟩⟩ ?_
                  refine WO_pure tbok 2 [(2, .bool y161)] rfl ⟨rfl, trivial⟩ ?_
                  refine WO_tail ?_
                  refine WO_end ?_
                  cases hm
                  exact WK_ret (ret_out (L := []) (RLc_tmp rfl RLc_nil) (List.nil_sublist _) rfl)
                · have hm := ifF hb160 hm
                  refine WO_pure tbok 2 [(2, .bool false), (125, .bool false)] rfl ⟨rfl, rfl, trivial⟩ ?_
                  refine WO_skip rfl rfl ?_
                  refine WO_pure tbok 2 [(2, .bool false)] rfl ⟨rfl, trivial⟩ ?_
                  refine WO_tail ?_
                  refine WO_end ?_
                  cases hm
                  exact WK_ret (ret_out (L := []) (RLc_tmp rfl RLc_nil) (List.nil_sublist _) rfl)
              · have hm := ifF hb157 hm
                refine WO_pure tbok 2 [(2, .bool false), (16, .pointer (some ⟨b104, 0, none⟩)), (18, .pointer (some ⟨b116, 0, none⟩)), (120, .bool false)] rfl ⟨rfl, rfl, rfl, rfl, trivial⟩ ?_
                refine WO_skip rfl rfl ?_
                refine WO_pure tbok 4 [(2, .bool false), (125, .bool false)] rfl ⟨rfl, rfl, trivial⟩ ?_
                refine WO_skip rfl rfl ?_
                refine WO_pure tbok 2 [(2, .bool false)] rfl ⟨rfl, trivial⟩ ?_
                refine WO_tail ?_
                refine WO_end ?_
                cases hm
                exact WK_ret (ret_out (L := []) (RLc_tmp rfl RLc_nil) (List.nil_sublist _) rfl)
            · have hm := ifF hb154 hm
              refine WO_pure tbok 2 [(1, .pointer (some ⟨b2, 0, none⟩)), (2, .bool false), (14, .pointer (some ⟨b92, 0, none⟩)), (16, .pointer (some ⟨b104, 0, none⟩)), (18, .pointer (some ⟨b116, 0, none⟩)), (115, .bool false)] rfl ⟨rfl, rfl, rfl, rfl, rfl, rfl, trivial⟩ ?_
              refine WO_skip rfl rfl ?_
              refine WO_pure tbok 4 [(2, .bool false), (16, .pointer (some ⟨b104, 0, none⟩)), (18, .pointer (some ⟨b116, 0, none⟩)), (120, .bool false)] rfl ⟨rfl, rfl, rfl, rfl, trivial⟩ ?_
              refine WO_skip rfl rfl ?_
              refine WO_pure tbok 4 [(2, .bool false), (125, .bool false)] rfl ⟨rfl, rfl, trivial⟩ ?_
              refine WO_skip rfl rfl ?_
              refine WO_pure tbok 2 [(2, .bool false)] rfl ⟨rfl, trivial⟩ ?_
              refine WO_tail ?_
              refine WO_end ?_
              cases hm
              exact WK_ret (ret_out (L := []) (RLc_tmp rfl RLc_nil) (List.nil_sublist _) rfl)
          · have hm := ifF hb141 hm
            refine WO_pure tbok 2 [(1, .pointer (some ⟨b2, 0, none⟩)), (2, .bool false), (12, .pointer (some ⟨b80, 0, none⟩)), (14, .pointer (some ⟨b92, 0, none⟩)), (16, .pointer (some ⟨b104, 0, none⟩)), (18, .pointer (some ⟨b116, 0, none⟩)), (109, .bool false)] rfl ⟨rfl, rfl, rfl, rfl, rfl, rfl, rfl, trivial⟩ ?_
            refine WO_skip rfl rfl ?_
            refine WO_skip rfl rfl ?_
            refine WO_pure tbok 4 [(1, .pointer (some ⟨b2, 0, none⟩)), (2, .bool false), (14, .pointer (some ⟨b92, 0, none⟩)), (16, .pointer (some ⟨b104, 0, none⟩)), (18, .pointer (some ⟨b116, 0, none⟩)), (115, .bool false)] rfl ⟨rfl, rfl, rfl, rfl, rfl, rfl, trivial⟩ ?_
            refine WO_skip rfl rfl ?_
            refine WO_pure tbok 4 [(2, .bool false), (16, .pointer (some ⟨b104, 0, none⟩)), (18, .pointer (some ⟨b116, 0, none⟩)), (120, .bool false)] rfl ⟨rfl, rfl, rfl, rfl, trivial⟩ ?_
            refine WO_skip rfl rfl ?_
            refine WO_pure tbok 4 [(2, .bool false), (125, .bool false)] rfl ⟨rfl, rfl, trivial⟩ ?_
            refine WO_skip rfl rfl ?_
            refine WO_pure tbok 2 [(2, .bool false)] rfl ⟨rfl, trivial⟩ ?_
            refine WO_tail ?_
            refine WO_end ?_
            cases hm
            exact WK_ret (ret_out (L := []) (RLc_tmp rfl RLc_nil) (List.nil_sublist _) rfl)
        · refine WK_block ?_
          refine WK_loop (S := Int) (G := Unit) (fun s => fiduciallaw13_RasterTurns_s1 y15 y27 y49 y61 y73 y85 y97 y109 s) (fun s g => [(1, .pointer (some ⟨b2, 0, none⟩)), (2, .bool false), (3, .pointer (some ⟨b22, 0, none⟩)), (5, .pointer (some ⟨b34, 0, none⟩)), (12, .pointer (some ⟨b80, 0, none⟩)), (14, .pointer (some ⟨b92, 0, none⟩)), (16, .pointer (some ⟨b104, 0, none⟩)), (18, .pointer (some ⟨b116, 0, none⟩)), (96, .slice (some ⟨b117, 0, none⟩) 8 8), (97, .int .i64 8), (98, .int .i64 s)]) (fun s g => St w0 m m [[⟨b2, 24, [.int .i64 p0_0, .int .i64 p0_1, .int .i64 p0_2, .slice a_p0_3 p0_3.length c_p0_3]⟩], [⟨b6, 24, [.int .i64 p0_0, .int .i64 p0_1, .int .i64 p0_2, .slice a_p0_3 p0_3.length c_p0_3]⟩], L20, [⟨b22, 24, [.int .i64 y11, .int .i64 y12, .int .i64 y13, .slice a17 ((y14).length) c18]⟩], L32, [⟨b34, 24, [.int .i64 y23, .int .i64 y24, .int .i64 y25, .slice a29 ((y26).length) c30]⟩], L54, [⟨b56, 24, [.int .i64 y45, .int .i64 y46, .int .i64 y47, .slice a51 ((y48).length) c52]⟩], L66, [⟨b68, 24, [.int .i64 y57, .int .i64 y58, .int .i64 y59, .slice a63 ((y60).length) c64]⟩], L78, [⟨b80, 24, [.int .i64 y69, .int .i64 y70, .int .i64 y71, .slice a75 ((y72).length) c76]⟩], L90, [⟨b92, 24, [.int .i64 y81, .int .i64 y82, .int .i64 y83, .slice a87 ((y84).length) c88]⟩], L102, [⟨b104, 24, [.int .i64 y93, .int .i64 y94, .int .i64 y95, .slice a99 ((y96).length) c100]⟩], L114, [⟨b116, 24, [.int .i64 y105, .int .i64 y106, .int .i64 y107, .slice a111 ((y108).length) c112]⟩], [⟨b117, 27, ([y15, y27, y49, y61, y73, y85, y97, y109] : List Int).flatMap (I1 .i64)⟩]]) (fun s g => True) FUEL 0 () x120 hx121 trivial ⟨rfl, rfl, rfl, rfl, rfl, rfl, rfl, rfl, rfl, rfl, rfl, trivial⟩ (fun _ h => h) ?_
          rintro s119 ⟨⟩ o124 fl125 hm123 - hn126 hd127
          have hm123 : fiduciallaw13_RasterTurns_s1 y15 y27 y49 y61 y73 y85 y97 y109 s119 = some o124 := hm123
          unfold fiduciallaw13_RasterTurns_s1 at hm123
          refine WK.sub (e' := [(1, .pointer (some ⟨b2, 0, none⟩)), (2, .bool false), (3, .pointer (some ⟨b22, 0, none⟩)), (5, .pointer (some ⟨b34, 0, none⟩)), (12, .pointer (some ⟨b80, 0, none⟩)), (14, .pointer (some ⟨b92, 0, none⟩)), (16, .pointer (some ⟨b104, 0, none⟩)), (18, .pointer (some ⟨b116, 0, none⟩)), (96, .slice (some ⟨b117, 0, none⟩) 8 8), (97, .int .i64 8), (98, .int .i64 s119)]) ⟨rfl, rfl, rfl, rfl, rfl, rfl, rfl, rfl, rfl, rfl, rfl, trivial⟩ (WK.cls (C' := St w0 m m [[⟨b2, 24, [.int .i64 p0_0, .int .i64 p0_1, .int .i64 p0_2, .slice a_p0_3 p0_3.length c_p0_3]⟩], [⟨b6, 24, [.int .i64 p0_0, .int .i64 p0_1, .int .i64 p0_2, .slice a_p0_3 p0_3.length c_p0_3]⟩], L20, [⟨b22, 24, [.int .i64 y11, .int .i64 y12, .int .i64 y13, .slice a17 ((y14).length) c18]⟩], L32, [⟨b34, 24, [.int .i64 y23, .int .i64 y24, .int .i64 y25, .slice a29 ((y26).length) c30]⟩], L54, [⟨b56, 24, [.int .i64 y45, .int .i64 y46, .int .i64 y47, .slice a51 ((y48).length) c52]⟩], L66, [⟨b68, 24, [.int .i64 y57, .int .i64 y58, .int .i64 y59, .slice a63 ((y60).length) c64]⟩], L78, [⟨b80, 24, [.int .i64 y69, .int .i64 y70, .int .i64 y71, .slice a75 ((y72).length) c76]⟩], L90, [⟨b92, 24, [.int .i64 y81, .int .i64 y82, .int .i64 y83, .slice a87 ((y84).length) c88]⟩], L102, [⟨b104, 24, [.int .i64 y93, .int .i64 y94, .int .i64 y95, .slice a99 ((y96).length) c100]⟩], L114, [⟨b116, 24, [.int .i64 y105, .int .i64 y106, .int .i64 y107, .slice a111 ((y108).length) c112]⟩], [⟨b117, 27, ([y15, y27, y49, y61, y73, y85, y97, y109] : List Int).flatMap (I1 .i64)⟩]]) (fun _ h => h) ?_)
          refine WK_seq ?_
          refine WK_region ?_
          refine WO_pure tbok 1 [(1, .pointer (some ⟨b2, 0, none⟩)), (2, .bool false), (3, .pointer (some ⟨b22, 0, none⟩)), (5, .pointer (some ⟨b34, 0, none⟩)), (12, .pointer (some ⟨b80, 0, none⟩)), (14, .pointer (some ⟨b92, 0, none⟩)), (16, .pointer (some ⟨b104, 0, none⟩)), (18, .pointer (some ⟨b116, 0, none⟩)), (96, .slice (some ⟨b117, 0, none⟩) 8 8), (97, .int .i64 8), (98, .int .i64 s119), (99, .bool (decide (s119 < 8)))] rfl ⟨rfl, rfl, rfl, rfl, rfl, rfl, rfl, rfl, rfl, rfl, rfl, rfl, trivial⟩ ?_
          refine WO_end ?_
          refine WK_seq ?_
          refine WK_cond (b := decide (s119 < 8)) rfl (fun hb163 => ?_) (fun hb163 => ?_)
          · have hm123 := ifT hb163 hm123
            refine WK_skip ?_
            refine WK_seq ?_
            refine WK_block ?_
            refine WK_seq ?_
            refine WK_region ?_
            obtain ⟨v164, hy165, hm123⟩ := bind_some hm123
            obtain ⟨hc166, hy165⟩ := ix_some hy165
            refine WO_index tbok rfl rfl rfl rfl rfl rfl rfl rfl (OwnE.addr hb117) (by simpa using hc166) ?_
            refine WO_loadO (E := (I1 .i64)) tbok (fun _ => rfl) 18 rfl rfl rfl rfl (fun _ h => h) hb117 rfl hy165 rfl ?_
            refine WO_pure tbok 1 [(1, .pointer (some ⟨b2, 0, none⟩)), (2, .bool false), (3, .pointer (some ⟨b22, 0, none⟩)), (5, .pointer (some ⟨b34, 0, none⟩)), (12, .pointer (some ⟨b80, 0, none⟩)), (14, .pointer (some ⟨b92, 0, none⟩)), (16, .pointer (some ⟨b104, 0, none⟩)), (18, .pointer (some ⟨b116, 0, none⟩)), (21, .int .i64 v164), (96, .slice (some ⟨b117, 0, none⟩) 8 8), (97, .int .i64 8), (98, .int .i64 s119)] rfl ⟨rfl, rfl, rfl, rfl, rfl, rfl, rfl, rfl, rfl, rfl, rfl, rfl, trivial⟩ ?_
            refine WO_end ?_
            refine WK_seq ?_
            refine WK_region ?_
            refine WO_pure tbok 2 [(1, .pointer (some ⟨b2, 0, none⟩)), (2, .bool false), (3, .pointer (some ⟨b22, 0, none⟩)), (5, .pointer (some ⟨b34, 0, none⟩)), (12, .pointer (some ⟨b80, 0, none⟩)), (14, .pointer (some ⟨b92, 0, none⟩)), (16, .pointer (some ⟨b104, 0, none⟩)), (18, .pointer (some ⟨b116, 0, none⟩)), (96, .slice (some ⟨b117, 0, none⟩) 8 8), (97, .int .i64 8), (98, .int .i64 s119), (103, .bool (v164 != 0))] rfl ⟨rfl, rfl, rfl, rfl, rfl, rfl, rfl, rfl, rfl, rfl, rfl, rfl, trivial⟩ ?_
            refine WO_end ?_
            refine WK_cond (b := v164 != 0) rfl (fun hb167 => ?_) (fun hb167 => ?_)
            · have hm123 := ifT hb167 hm123
              refine WK_seq ?_
              refine WK_region ?_
              refine WO_pure tbok 1 [(1, .pointer (some ⟨b2, 0, none⟩)), (2, .bool false), (3, .pointer (some ⟨b22, 0, none⟩)), (5, .pointer (some ⟨b34, 0, none⟩)), (12, .pointer (some ⟨b80, 0, none⟩)), (14, .pointer (some ⟨b92, 0, none⟩)), (16, .pointer (some ⟨b104, 0, none⟩)), (18, .pointer (some ⟨b116, 0, none⟩)), (96, .slice (some ⟨b117, 0, none⟩) 8 8), (97, .int .i64 8), (98, .int .i64 s119)] rfl ⟨rfl, rfl, rfl, rfl, rfl, rfl, rfl, rfl, rfl, rfl, rfl, trivial⟩ ?_
              refine WO_end ?_
              cases hm123
              have hq := hd127 _ rfl
              subst hq
              have hm : some _ = some _ := hm
              cases hm
              exact WK_ret (ret_out (L := []) (RLc_tmp rfl RLc_nil) (List.nil_sublist _) rfl)
            · have hm123 := ifF hb167 hm123
              refine WK_skip ?_
              refine WK_blk ?_
              refine WK_region ?_
              refine WO_pure tbok 2 [(1, .pointer (some ⟨b2, 0, none⟩)), (2, .bool false), (3, .pointer (some ⟨b22, 0, none⟩)), (5, .pointer (some ⟨b34, 0, none⟩)), (12, .pointer (some ⟨b80, 0, none⟩)), (14, .pointer (some ⟨b92, 0, none⟩)), (16, .pointer (some ⟨b104, 0, none⟩)), (18, .pointer (some ⟨b116, 0, none⟩)), (96, .slice (some ⟨b117, 0, none⟩) 8 8), (97, .int .i64 8), (98, .int .i64 (w64 (s119 + 1)))] rfl ⟨rfl, rfl, rfl, rfl, rfl, rfl, rfl, rfl, rfl, rfl, rfl, trivial⟩ ?_
              refine WO_end ?_
              cases hm123
              refine WK.sub ?_ (WK.cls (fun _ h => h) (hn126 _ () rfl trivial))
              exact ⟨rfl, rfl, rfl, rfl, rfl, rfl, rfl, rfl, rfl, rfl, rfl, trivial⟩
          · have hm123 := ifF hb163 hm123
            refine WK_exit rfl ?_
            cases hm123
            refine WK.sub ?_ (WK.cls (fun _ h => h) (hk122 ((), ()) (hd127 _ rfl)))
            exact ⟨rfl, rfl, rfl, rfl, rfl, rfl, rfl, rfl, trivial⟩
theorem raster_Equal_walk {m : Mu} {p0_0 : Int} {p0_1 : Int} {p0_2 : Int} {p0_3 : List Int} {p1_0 : Int} {p1_1 : Int} {p1_2 : Int} {p1_3 : List Int} {a_p0_3 : Option Addr} {q_p0_3 c_p0_3 : Nat} {a_p1_3 : Option Addr} {q_p1_3 c_p1_3 : Nat} (h_p0_3 : SlR (FE (I1 .i64)) 1 m (.slice a_p0_3 q_p0_3 c_p0_3) p0_3) (h_p1_3 : SlR (FE (I1 .i64)) 1 m (.slice a_p1_3 q_p1_3 c_p1_3) p1_3) {r : Bool} (hm : raster_Equal p0_0 p0_1 p0_2 p0_3 p1_0 p1_1 p1_2 p1_3 = some r) :
    Go.E.Spec Try.prog 21 [.agg #[.int .i64 p0_0, .int .i64 p0_1, .int .i64 p0_2, .slice a_p0_3 q_p0_3 c_p0_3], .agg #[.int .i64 p1_0, .int .i64 p1_1, .int .i64 p1_2, .slice a_p1_3 q_p1_3 c_p1_3]] m (fun v _ _ => v = .bool r) := by
  refine Spec_enter Try.func21 rfl rfl rfl (fun w0 => ?_)
  refine WK.sub (e' := [(0, .agg #[.int .i64 p0_0, .int .i64 p0_1, .int .i64 p0_2, .slice a_p0_3 q_p0_3 c_p0_3]), (1, .agg #[.int .i64 p1_0, .int .i64 p1_1, .int .i64 p1_2, .slice a_p1_3 q_p1_3 c_p1_3])]) ⟨rfl, rfl, trivial⟩ ?_
  obtain rfl := SlR.qlen h_p0_3
  obtain rfl := SlR.qlen h_p1_3
  refine WK.sub (e' := [(0, .agg #[.int .i64 p0_0, .int .i64 p0_1, .int .i64 p0_2, .slice a_p0_3 p0_3.length c_p0_3]), (1, .agg #[.int .i64 p1_0, .int .i64 p1_1, .int .i64 p1_2, .slice a_p1_3 p1_3.length c_p1_3])]) ⟨rfl, rfl, trivial⟩ ?_
  unfold raster_Equal at hm
  refine WK_seq ?_
  refine WK_region ?_
  refine WO_box [.int .i64 p0_0, .int .i64 p0_1, .int .i64 p0_2, .slice a_p0_3 p0_3.length c_p0_3] rfl rfl trivial rfl rfl rfl (fun b3 => ?_)
  refine WO.cls (C' := St w0 m m [[⟨b3, 24, [.int .i64 p0_0, .int .i64 p0_1, .int .i64 p0_2, .slice a_p0_3 p0_3.length c_p0_3]⟩]]) (fun _ h => h) ?_
  refine WO_box [.int .i64 p1_0, .int .i64 p1_1, .int .i64 p1_2, .slice a_p1_3 p1_3.length c_p1_3] rfl rfl trivial rfl rfl rfl (fun b4 => ?_)
  refine WO.cls (C' := St w0 m m [[⟨b3, 24, [.int .i64 p0_0, .int .i64 p0_1, .int .i64 p0_2, .slice a_p0_3 p0_3.length c_p0_3]⟩], [⟨b4, 24, [.int .i64 p1_0, .int .i64 p1_1, .int .i64 p1_2, .slice a_p1_3 p1_3.length c_p1_3]⟩]]) (fun _ h => h) ?_
  refine WO_pure tbok 1 [(2, .pointer (some ⟨b3, 0, none⟩)), (3, .pointer (some ⟨b4, 0, none⟩)), (4, .bool false)] rfl ⟨rfl, rfl, rfl, trivial⟩ ?_
  refine WO_end ?_
  refine WK_seq ?_
  refine WK_region ?_
  refine WO_pure tbok 1 [(2, .pointer (some ⟨b3, 0, none⟩)), (3, .pointer (some ⟨b4, 0, none⟩)), (4, .bool false), (5, .pointer (some ⟨b3, 0, none⟩))] rfl ⟨rfl, rfl, rfl, rfl, trivial⟩ ?_
  refine WO_loadB tbok 0 rfl rfl rfl rfl (fun _ h => h) rfl rfl ?_
  refine WO_pure tbok 1 [(2, .pointer (some ⟨b3, 0, none⟩)), (3, .pointer (some ⟨b4, 0, none⟩)), (4, .bool false), (6, .int .i64 p0_0), (7, .pointer (some ⟨b4, 0, none⟩))] rfl ⟨rfl, rfl, rfl, rfl, rfl, trivial⟩ ?_
  refine WO_loadB tbok 1 rfl rfl rfl rfl (fun _ h => h) rfl rfl ?_
  refine WO_pure tbok 2 [(2, .pointer (some ⟨b3, 0, none⟩)), (3, .pointer (some ⟨b4, 0, none⟩)), (4, .bool false), (10, .bool (p0_0 == p1_0))] rfl ⟨rfl, rfl, rfl, rfl, trivial⟩ ?_
  refine WO_split (d := 10) (b := p0_0 == p1_0) rfl (fun hb5 => ?_) (fun hb5 => ?_)
  · have hm := ifT hb5 hm
    refine WO_pure tbok 1 [(2, .pointer (some ⟨b3, 0, none⟩)), (3, .pointer (some ⟨b4, 0, none⟩)), (4, .bool false), (10, .bool true), (11, .pointer (some ⟨b3, 1, none⟩))] rfl ⟨rfl, rfl, rfl, rfl, rfl, trivial⟩ ?_
    refine WO_loadB tbok 0 rfl rfl rfl rfl (fun _ h => h) rfl rfl ?_
    refine WO_pure tbok 1 [(2, .pointer (some ⟨b3, 0, none⟩)), (3, .pointer (some ⟨b4, 0, none⟩)), (4, .bool false), (10, .bool true), (12, .int .i64 p0_1), (13, .pointer (some ⟨b4, 1, none⟩))] rfl ⟨rfl, rfl, rfl, rfl, rfl, rfl, trivial⟩ ?_
    refine WO_loadB tbok 1 rfl rfl rfl rfl (fun _ h => h) rfl rfl ?_
    refine WO_pure tbok 3 [(2, .pointer (some ⟨b3, 0, none⟩)), (3, .pointer (some ⟨b4, 0, none⟩)), (4, .bool false), (17, .bool (p0_1 == p1_1))] rfl ⟨rfl, rfl, rfl, rfl, trivial⟩ ?_
    refine WO_split (d := 17) (b := p0_1 == p1_1) rfl (fun hb6 => ?_) (fun hb6 => ?_)
    · have hm := ifT hb6 hm
      refine WO_pure tbok 1 [(2, .pointer (some ⟨b3, 0, none⟩)), (3, .pointer (some ⟨b4, 0, none⟩)), (4, .bool false), (17, .bool true), (18, .pointer (some ⟨b3, 2, none⟩))] rfl ⟨rfl, rfl, rfl, rfl, rfl, trivial⟩ ?_
      refine WO_loadB tbok 0 rfl rfl rfl rfl (fun _ h => h) rfl rfl ?_
      refine WO_pure tbok 1 [(2, .pointer (some ⟨b3, 0, none⟩)), (3, .pointer (some ⟨b4, 0, none⟩)), (4, .bool false), (17, .bool true), (19, .int .i64 p0_2), (20, .pointer (some ⟨b4, 2, none⟩))] rfl ⟨rfl, rfl, rfl, rfl, rfl, rfl, trivial⟩ ?_
      refine WO_loadB tbok 1 rfl rfl rfl rfl (fun _ h => h) rfl rfl ?_
      refine WO_pure tbok 3 [(2, .pointer (some ⟨b3, 0, none⟩)), (3, .pointer (some ⟨b4, 0, none⟩)), (4, .bool false), (24, .bool (p0_2 == p1_2))] rfl ⟨rfl, rfl, rfl, rfl, trivial⟩ ?_
      refine WO_split (d := 24) (b := p0_2 == p1_2) rfl (fun hb7 => ?_) (fun hb7 => ?_)
      · have hm := ifT hb7 hm
        refine WO_pure tbok 1 [(3, .pointer (some ⟨b4, 0, none⟩)), (4, .bool false), (24, .bool true), (25, .pointer (some ⟨b3, 3, none⟩))] rfl ⟨rfl, rfl, rfl, rfl, trivial⟩ ?_
        refine WO_loadB tbok 0 rfl rfl rfl rfl (fun _ h => h) rfl rfl ?_
        refine WO_pure tbok 1 [(4, .bool false), (24, .bool true), (26, .slice a_p0_3 p0_3.length c_p0_3), (27, .pointer (some ⟨b4, 3, none⟩))] rfl ⟨rfl, rfl, rfl, rfl, trivial⟩ ?_
        refine WO_loadB tbok 1 rfl rfl rfl rfl (fun _ h => h) rfl rfl ?_
        obtain ⟨y8, hc9, hm⟩ := bind_some hm
        refine WO_call0 (.bool y8) rfl rfl trivial rfl rfl rfl rfl St_closed ⟨27, #[], #[], rfl, callable_27, fun w hw => ⟨_, hw.sat, slices_Equal_sint_walk h_p0_3 h_p1_3 hc9⟩⟩ ?_
        refine WO_pure tbok 2 [(4, .bool y8)] rfl ⟨rfl, trivial⟩ ?_
        refine WO_end ?_
        cases hm
        exact WK_ret (ret_out (L := []) (RLc_tmp rfl RLc_nil) (List.nil_sublist _) rfl)
      · have hm := ifF hb7 hm
        refine WO_pure tbok 4 [(4, .bool false), (24, .bool false)] rfl ⟨rfl, rfl, trivial⟩ ?_
        refine WO_skip rfl rfl ?_
        refine WO_pure tbok 2 [(4, .bool false)] rfl ⟨rfl, trivial⟩ ?_
        refine WO_end ?_
        cases hm
        exact WK_ret (ret_out (L := []) (RLc_tmp rfl RLc_nil) (List.nil_sublist _) rfl)
    · have hm := ifF hb6 hm
      refine WO_pure tbok 11 [(4, .bool false), (24, .bool false)] rfl ⟨rfl, rfl, trivial⟩ ?_
      refine WO_skip rfl rfl ?_
      refine WO_pure tbok 2 [(4, .bool false)] rfl ⟨rfl, trivial⟩ ?_
      refine WO_end ?_
      cases hm
      exact WK_ret (ret_out (L := []) (RLc_tmp rfl RLc_nil) (List.nil_sublist _) rfl)
  · have hm := ifF hb5 hm
    refine WO_pure tbok 18 [(4, .bool false), (24, .bool false)] rfl ⟨rfl, rfl, trivial⟩ ?_
    refine WO_skip rfl rfl ?_
    refine WO_pure tbok 2 [(4, .bool false)] rfl ⟨rfl, trivial⟩ ?_
    refine WO_end ?_
    cases hm
    exact WK_ret (ret_out (L := []) (RLc_tmp rfl RLc_nil) (List.nil_sublist _) rfl)
theorem raster_size_walk {m : Mu} {p0 : Int}   {r : Bool} (hm : raster_size p0 = some r) :
    Go.E.Spec Try.prog 53 [.int .i64 p0] m (fun v _ _ => v = .bool r) := by
  refine Spec_enter Try.func53 rfl rfl rfl (fun w0 => ?_)
  refine WK.sub (e' := [(0, .int .i64 p0)]) ⟨rfl, trivial⟩ ?_
  refine WK.sub (e' := [(0, .int .i64 p0)]) ⟨rfl, trivial⟩ ?_
  unfold raster_size at hm
  refine WK_seq ?_
  refine WK_region ?_
  refine WO_pure tbok 1 [(0, .int .i64 p0), (2, .bool false)] rfl ⟨rfl, rfl, trivial⟩ ?_
  refine WO_end ?_
  refine WK_seq ?_
  refine WK_region ?_
  refine WO_pure tbok 3 [(0, .int .i64 p0), (2, .bool false), (5, .bool (decide (1 ≤ p0)))] rfl ⟨rfl, rfl, rfl, trivial⟩ ?_
  refine WO_split (d := 5) (b := decide (1 ≤ p0)) rfl (fun hb1 => ?_) (fun hb1 => ?_)
  · have hm := ifT hb1 hm
    refine WO_pure tbok 4 [(2, .bool (decide (p0 ≤ 64)))] rfl ⟨rfl, trivial⟩ ?_
    refine WO_end ?_
    cases hm
    exact WK_ret (ret_out (L := []) (RLc_tmp rfl RLc_nil) (List.nil_sublist _) rfl)
  · have hm := ifF hb1 hm
    refine WO_pure tbok 4 [(2, .bool false)] rfl ⟨rfl, trivial⟩ ?_
    refine WO_end ?_
    cases hm
    exact WK_ret (ret_out (L := []) (RLc_tmp rfl RLc_nil) (List.nil_sublist _) rfl)
theorem raster_New_c1_walk {m : Mu} {p0 : Int} {p1 : Int}   {r : Int} (hm : raster_New_c1 p0 p1 = some r) :
    Go.E.Spec Try.prog 54 [.int .i64 p0, .int .i64 p1] m (fun v _ _ => v = .int .i64 r) := by
  refine Spec_enter Try.func54 rfl rfl rfl (fun w0 => ?_)
  refine WK.sub (e' := []) trivial ?_
  refine WK.sub (e' := []) trivial ?_
  unfold raster_New_c1 at hm
  refine WK_seq ?_
  refine WK_region ?_
  refine WO_pure tbok 1 [(4, .int .i64 0)] rfl ⟨rfl, trivial⟩ ?_
  refine WO_end ?_
  refine WK_seq ?_
  refine WK_region ?_
  refine WO_pure tbok 1 [(4, .int .i64 0)] rfl ⟨rfl, trivial⟩ ?_
  refine WO_end ?_
  cases hm
  exact WK_ret (ret_out (L := []) (RLc_tmp rfl RLc_nil) (List.nil_sublist _) rfl)
def raster_New_Q (r : Int × Int × Int × List Int × Int) : Value → List Ent → Prop := fun v L => ∃ (a0 : Option Addr) (q0 c0 : Nat), v = .tuple #[.agg #[.int .i64 r.1, .int .i64 r.2.1, .int .i64 r.2.2.1, .slice a0 q0 c0], .int .i64 r.2.2.2.2] ∧ OwnE 3 1 (I1 .i64) (.slice a0 q0 c0) r.2.2.2.1 L
theorem raster_New_walk {m : Mu} {p0 : Int} {p1 : Int} {p2 : Int}   {r : Int × Int × Int × List Int × Int} (hm : raster_New p0 p1 p2 = some r) :
    Go.E.Spec Try.prog 23 [.int .i64 p0, .int .i64 p1, .int .i64 p2] m (fun v _ L => raster_New_Q r v L) := by
  refine Spec_enter Try.func23 rfl rfl rfl (fun w0 => ?_)
  refine WK.sub (e' := [(0, .int .i64 p0), (1, .int .i64 p1), (2, .int .i64 p2)]) ⟨rfl, rfl, rfl, trivial⟩ ?_
  refine WK.sub (e' := [(0, .int .i64 p0), (1, .int .i64 p1), (2, .int .i64 p2)]) ⟨rfl, rfl, rfl, trivial⟩ ?_
  unfold raster_New at hm
  refine WK_seq ?_
  refine WK_region ?_
  refine WO_alloc tbok [.int .i64 0, .int .i64 0, .int .i64 0, .slice none 0 0] rfl rfl trivial rfl rfl rfl rfl (fun b1 => ?_)
  refine WO.cls (C' := St w0 m m [[⟨b1, 24, [.int .i64 0, .int .i64 0, .int .i64 0, .slice none 0 0]⟩]]) (fun _ h => h) ?_
  refine WO_pure tbok 1 [(0, .int .i64 p0), (1, .int .i64 p1), (2, .int .i64 p2), (6, .pointer (some ⟨b1, 0, none⟩)), (7, .int .i64 0)] rfl ⟨rfl, rfl, rfl, rfl, rfl, trivial⟩ ?_
  refine WO_end ?_
  refine WK_seq ?_
  refine WK_seq ?_
  obtain ⟨s2, hx3, hm⟩ := bind_some hm
  refine WK_meet [(0, .int .i64 p0), (1, .int .i64 p1), (2, .int .i64 p2), (6, .pointer (some ⟨b1, 0, none⟩)), (7, .int .i64 0), (23, .bool s2)] (St w0 m m [[⟨b1, 24, [.int .i64 0, .int .i64 0, .int .i64 0, .slice none 0 0]⟩]]) ?_ (fun hk4 => ?_)
  · refine WK_cond (b := s2) rfl (fun hb5 => ?_) (fun hb5 => ?_)
    · have hm := ifT hb5 hm
      refine WK_seq ?_
      refine WK_region ?_
      refine WO_pure tbok 1 [(0, .int .i64 p0), (1, .int .i64 p1), (2, .int .i64 p2), (6, .pointer (some ⟨b1, 0, none⟩)), (7, .int .i64 0), (24, .agg #[.int .i64 0, .int .i64 0, .int .i64 0, .slice none 0 0])] rfl ⟨rfl, rfl, rfl, rfl, rfl, rfl, trivial⟩ ?_
      refine WO_storeB tbok 0 [.int .i64 0, .int .i64 0, .int .i64 0, .slice none 0 0] rfl rfl rfl rfl rfl rfl rfl ?_
      refine WO.cls (C' := St w0 m m [[⟨b1, 24, [.int .i64 0, .int .i64 0, .int .i64 0, .slice none 0 0]⟩]]) (fun _ h => h) ?_
      refine WO_pure tbok 1 [(0, .int .i64 p0), (1, .int .i64 p1), (2, .int .i64 p2), (6, .pointer (some ⟨b1, 0, none⟩)), (7, .int .i64 2)] rfl ⟨rfl, rfl, rfl, rfl, rfl, trivial⟩ ?_
      refine WO_end ?_
      cases hm
      exact WK_ret (ret_out (L := []) (RLc_cell tbok 0 rfl rfl rfl (RLc_tmp rfl RLc_nil)) (List.nil_sublist _) ⟨none, 0, 0, rfl, (OwnE.nil none)⟩)
    · have hm := ifF hb5 hm
      refine WK_skip ?_
      refine WK_seq ?_
      refine WK_region ?_
      refine WO_pure tbok 3 [(6, .pointer (some ⟨b1, 0, none⟩)), (7, .int .i64 0), (25, .int .i64 p0), (26, .int .i64 p1), (27, .int .i64 p2)] rfl ⟨rfl, rfl, rfl, rfl, rfl, trivial⟩ ?_
      obtain ⟨⟨y8, y9, y10, y11⟩, hc12, hm⟩ := bind_some hm
      refine WO_call1 (raster_made_Q (y8, y9, y10, y11)) rfl rfl trivial rfl rfl rfl rfl ⟨48, #[], #[], rfl, callable_48, fun w hw => ⟨_, hw.sat, raster_made_walk (fun z6 z7 _ h => specV_cap callable_54 (raster_New_c1_walk h)) hc12⟩⟩ (fun v17 L16 hq => ?_)
      obtain ⟨a13, qa13, c14, rfl, hL16⟩ := hq
      obtain rfl := OwnE.qlen hL16
      refine WO.cls (C' := St w0 m m [[⟨b1, 24, [.int .i64 0, .int .i64 0, .int .i64 0, .slice none 0 0]⟩], L16]) (fun _ h => h) ?_
      refine WO_storeB tbok 0 [.int .i64 y8, .int .i64 y9, .int .i64 y10, .slice a13 ((y11).length) c14] rfl rfl rfl rfl rfl rfl rfl ?_
      refine WO.cls (C' := St w0 m m [[⟨b1, 24, [.int .i64 y8, .int .i64 y9, .int .i64 y10, .slice a13 ((y11).length) c14]⟩], L16]) (fun _ h => h) ?_
      refine WO_pure tbok 1 [(6, .pointer (some ⟨b1, 0, none⟩)), (7, .int .i64 0)] rfl ⟨rfl, rfl, trivial⟩ ?_
      refine WO_end ?_
      cases hm
      exact WK_ret (ret_out (L := L16) (RLc_cell tbok 0 rfl rfl rfl (RLc_tmp rfl RLc_nil)) (seg_sub 1 rfl) ⟨a13, ((y11).length), c14, rfl, hL16⟩)
  · refine WK_region ?_
    refine WO_pure tbok 1 [(0, .int .i64 p0), (1, .int .i64 p1), (2, .int .i64 p2), (6, .pointer (some ⟨b1, 0, none⟩)), (7, .int .i64 0), (8, .int .i64 p0)] rfl ⟨rfl, rfl, rfl, rfl, rfl, rfl, trivial⟩ ?_
    obtain ⟨y18, hc19, hx3⟩ := bind_some hx3
    refine WO_call0 (.bool y18) rfl rfl trivial rfl rfl rfl rfl St_closed ⟨53, #[], #[], rfl, callable_53, fun w hw => ⟨_, hw.sat, raster_size_walk hc19⟩⟩ ?_
    refine WO_pure tbok 2 [(0, .int .i64 p0), (1, .int .i64 p1), (2, .int .i64 p2), (6, .pointer (some ⟨b1, 0, none⟩)), (7, .int .i64 0), (11, .bool (!y18))] rfl ⟨rfl, rfl, rfl, rfl, rfl, rfl, trivial⟩ ?_
    refine WO_split (d := 11) (b := !y18) rfl (fun hb20 => ?_) (fun hb20 => ?_)
    · have hx3 := ifT hb20 hx3
      refine WO_pure tbok 1 [(0, .int .i64 p0), (1, .int .i64 p1), (2, .int .i64 p2), (6, .pointer (some ⟨b1, 0, none⟩)), (7, .int .i64 0), (11, .bool true)] rfl ⟨rfl, rfl, rfl, rfl, rfl, rfl, trivial⟩ ?_
      refine WO_skip rfl rfl ?_
      refine WO_pure tbok 10 [(0, .int .i64 p0), (1, .int .i64 p1), (2, .int .i64 p2), (6, .pointer (some ⟨b1, 0, none⟩)), (7, .int .i64 0), (23, .bool true)] rfl ⟨rfl, rfl, rfl, rfl, rfl, rfl, trivial⟩ ?_
      refine WO_end ?_
      cases hx3
      refine WK.sub ?_ (WK.cls (fun _ h => h) hk4)
      exact ⟨rfl, rfl, rfl, rfl, rfl, rfl, trivial⟩
    · have hx3 := ifF hb20 hx3
      refine WO_pure tbok 1 [(0, .int .i64 p0), (1, .int .i64 p1), (2, .int .i64 p2), (6, .pointer (some ⟨b1, 0, none⟩)), (7, .int .i64 0), (11, .bool false), (12, .int .i64 p1)] rfl ⟨rfl, rfl, rfl, rfl, rfl, rfl, rfl, trivial⟩ ?_
      obtain ⟨y21, hc22, hx3⟩ := bind_some hx3
      refine WO_call0 (.bool y21) rfl rfl trivial rfl rfl rfl rfl St_closed ⟨53, #[], #[], rfl, callable_53, fun w hw => ⟨_, hw.sat, raster_size_walk hc22⟩⟩ ?_
      refine WO_pure tbok 3 [(0, .int .i64 p0), (1, .int .i64 p1), (2, .int .i64 p2), (6, .pointer (some ⟨b1, 0, none⟩)), (7, .int .i64 0), (16, .bool (!y21))] rfl ⟨rfl, rfl, rfl, rfl, rfl, rfl, trivial⟩ ?_
      refine WO_split (d := 16) (b := !y21) rfl (fun hb23 => ?_) (fun hb23 => ?_)
      · have hx3 := ifT hb23 hx3
        refine WO_pure tbok 7 [(0, .int .i64 p0), (1, .int .i64 p1), (2, .int .i64 p2), (6, .pointer (some ⟨b1, 0, none⟩)), (7, .int .i64 0), (23, .bool true)] rfl ⟨rfl, rfl, rfl, rfl, rfl, rfl, trivial⟩ ?_
        refine WO_end ?_
        cases hx3
        refine WK.sub ?_ (WK.cls (fun _ h => h) hk4)
        exact ⟨rfl, rfl, rfl, rfl, rfl, rfl, trivial⟩
      · have hx3 := ifF hb23 hx3
        refine WO_pure tbok 4 [(0, .int .i64 p0), (1, .int .i64 p1), (2, .int .i64 p2), (6, .pointer (some ⟨b1, 0, none⟩)), (7, .int .i64 0), (20, .bool (decide (p2 < 1)))] rfl ⟨rfl, rfl, rfl, rfl, rfl, rfl, trivial⟩ ?_
        refine WO_split (d := 20) (b := decide (p2 < 1)) rfl (fun hb24 => ?_) (fun hb24 => ?_)
        · have hx3 := ifT hb24 hx3
          refine WO_pure tbok 3 [(0, .int .i64 p0), (1, .int .i64 p1), (2, .int .i64 p2), (6, .pointer (some ⟨b1, 0, none⟩)), (7, .int .i64 0), (23, .bool true)] rfl ⟨rfl, rfl, rfl, rfl, rfl, rfl, trivial⟩ ?_
          refine WO_end ?_
          cases hx3
          refine WK.sub ?_ (WK.cls (fun _ h => h) hk4)
          exact ⟨rfl, rfl, rfl, rfl, rfl, rfl, trivial⟩
        · have hx3 := ifF hb24 hx3
          refine WO_pure tbok 3 [(0, .int .i64 p0), (1, .int .i64 p1), (2, .int .i64 p2), (6, .pointer (some ⟨b1, 0, none⟩)), (7, .int .i64 0), (23, .bool (decide (65535 < p2)))] rfl ⟨rfl, rfl, rfl, rfl, rfl, rfl, trivial⟩ ?_
          refine WO_end ?_
          cases hx3
          refine WK.sub ?_ (WK.cls (fun _ h => h) hk4)
          exact ⟨rfl, rfl, rfl, rfl, rfl, rfl, trivial⟩
theorem fiduciallaw13_RasterForms_walk {m : Mu} {p0_0 : Int} {p0_1 : Int} {p0_2 : Int} {p0_3 : List Int} {p1_0 : Int} {p1_1 : Int} {p1_2 : Int} {p1_3 : List Int} {p2_0 : Int} {p2_1 : Int} {p2_2 : Int} {a_p0_3 : Option Addr} {q_p0_3 c_p0_3 : Nat} {a_p1_3 : Option Addr} {q_p1_3 c_p1_3 : Nat} (h_p0_3 : SlR (FE (I1 .i64)) 1 m (.slice a_p0_3 q_p0_3 c_p0_3) p0_3) (h_p1_3 : SlR (FE (I1 .i64)) 1 m (.slice a_p1_3 q_p1_3 c_p1_3) p1_3) {r : Bool} (hm : fiduciallaw13_RasterForms p0_0 p0_1 p0_2 p0_3 p1_0 p1_1 p1_2 p1_3 p2_0 p2_1 p2_2 = some r) :
    Go.E.Spec Try.prog 4 [.agg #[.int .i64 p0_0, .int .i64 p0_1, .int .i64 p0_2, .slice a_p0_3 q_p0_3 c_p0_3], .agg #[.int .i64 p1_0, .int .i64 p1_1, .int .i64 p1_2, .slice a_p1_3 q_p1_3 c_p1_3], .agg #[.int .i64 p2_0, .int .i64 p2_1, .int .i64 p2_2]] m (fun v _ _ => v = .bool r) := by
  refine Spec_enter Try.func4 rfl rfl rfl (fun w0 => ?_)
  refine WK.sub (e' := [(0, .agg #[.int .i64 p0_0, .int .i64 p0_1, .int .i64 p0_2, .slice a_p0_3 q_p0_3 c_p0_3]), (1, .agg #[.int .i64 p1_0, .int .i64 p1_1, .int .i64 p1_2, .slice a_p1_3 q_p1_3 c_p1_3]), (2, .agg #[.int .i64 p2_0, .int .i64 p2_1, .int .i64 p2_2])]) ⟨rfl, rfl, rfl, trivial⟩ ?_
  obtain rfl := SlR.qlen h_p0_3
  obtain rfl := SlR.qlen h_p1_3
  refine WK.sub (e' := [(0, .agg #[.int .i64 p0_0, .int .i64 p0_1, .int .i64 p0_2, .slice a_p0_3 p0_3.length c_p0_3]), (1, .agg #[.int .i64 p1_0, .int .i64 p1_1, .int .i64 p1_2, .slice a_p1_3 p1_3.length c_p1_3]), (2, .agg #[.int .i64 p2_0, .int .i64 p2_1, .int .i64 p2_2])]) ⟨rfl, rfl, rfl, trivial⟩ ?_
  unfold fiduciallaw13_RasterForms at hm
  refine WK_seq ?_
  refine WK_region ?_
  refine WO_box [.int .i64 p0_0, .int .i64 p0_1, .int .i64 p0_2, .slice a_p0_3 p0_3.length c_p0_3] rfl rfl trivial rfl rfl rfl (fun b3 => ?_)
  refine WO.cls (C' := St w0 m m [[⟨b3, 24, [.int .i64 p0_0, .int .i64 p0_1, .int .i64 p0_2, .slice a_p0_3 p0_3.length c_p0_3]⟩]]) (fun _ h => h) ?_
  refine WO_box [.int .i64 p1_0, .int .i64 p1_1, .int .i64 p1_2, .slice a_p1_3 p1_3.length c_p1_3] rfl rfl trivial rfl rfl rfl (fun b4 => ?_)
  refine WO.cls (C' := St w0 m m [[⟨b3, 24, [.int .i64 p0_0, .int .i64 p0_1, .int .i64 p0_2, .slice a_p0_3 p0_3.length c_p0_3]⟩], [⟨b4, 24, [.int .i64 p1_0, .int .i64 p1_1, .int .i64 p1_2, .slice a_p1_3 p1_3.length c_p1_3]⟩]]) (fun _ h => h) ?_
  refine WO_box [.int .i64 p2_0, .int .i64 p2_1, .int .i64 p2_2] rfl rfl trivial rfl rfl rfl (fun b5 => ?_)
  refine WO.cls (C' := St w0 m m [[⟨b3, 24, [.int .i64 p0_0, .int .i64 p0_1, .int .i64 p0_2, .slice a_p0_3 p0_3.length c_p0_3]⟩], [⟨b4, 24, [.int .i64 p1_0, .int .i64 p1_1, .int .i64 p1_2, .slice a_p1_3 p1_3.length c_p1_3]⟩], [⟨b5, 35, [.int .i64 p2_0, .int .i64 p2_1, .int .i64 p2_2]⟩]]) (fun _ h => h) ?_
  refine WO_pure tbok 1 [(3, .pointer (some ⟨b3, 0, none⟩)), (4, .pointer (some ⟨b4, 0, none⟩)), (5, .pointer (some ⟨b5, 0, none⟩)), (6, .bool false)] rfl ⟨rfl, rfl, rfl, rfl, trivial⟩ ?_
  refine WO_end ?_
  refine WK_seq ?_
  refine WK_seq ?_
  refine WK_region ?_
  obtain ⟨y6, hc7, hm⟩ := bind_some hm
  refine WO_call0 (.bool y6) rfl rfl trivial rfl rfl rfl rfl St_closed ⟨11, #[], #[], rfl, callable_11, fun w hw => ⟨_, hw.sat, fiduciallaw13_known_walk hc7⟩⟩ ?_
  refine WO_pure tbok 1 [(3, .pointer (some ⟨b3, 0, none⟩)), (4, .pointer (some ⟨b4, 0, none⟩)), (5, .pointer (some ⟨b5, 0, none⟩)), (6, .bool false), (10, .bool (!y6))] rfl ⟨rfl, rfl, rfl, rfl, rfl, trivial⟩ ?_
  refine WO_end ?_
  refine WK_cond (b := !y6) rfl (fun hb8 => ?_) (fun hb8 => ?_)
  · have hm := ifT hb8 hm
    refine WK_seq ?_
    refine WK_region ?_
    refine WO_pure tbok 1 [(3, .pointer (some ⟨b3, 0, none⟩)), (4, .pointer (some ⟨b4, 0, none⟩)), (5, .pointer (some ⟨b5, 0, none⟩)), (6, .bool false)] rfl ⟨rfl, rfl, rfl, rfl, trivial⟩ ?_
    refine WO_end ?_
    cases hm
    exact WK_ret (ret_out (L := []) (RLc_tmp rfl RLc_nil) (List.nil_sublist _) rfl)
  · have hm := ifF hb8 hm
    refine WK_skip ?_
    refine WK_seq ?_
    refine WK_seq ?_
    obtain ⟨s9, hx10, hm⟩ := bind_some hm
    refine WK_meet [(3, .pointer (some ⟨b3, 0, none⟩)), (4, .pointer (some ⟨b4, 0, none⟩)), (5, .pointer (some ⟨b5, 0, none⟩)), (6, .bool false), (35, .bool s9)] (St w0 m m [[⟨b3, 24, [.int .i64 p0_0, .int .i64 p0_1, .int .i64 p0_2, .slice a_p0_3 p0_3.length c_p0_3]⟩], [⟨b4, 24, [.int .i64 p1_0, .int .i64 p1_1, .int .i64 p1_2, .slice a_p1_3 p1_3.length c_p1_3]⟩], [⟨b5, 35, [.int .i64 p2_0, .int .i64 p2_1, .int .i64 p2_2]⟩]]) ?_ (fun hk11 => ?_)
    · refine WK_cond (b := s9) rfl (fun hb12 => ?_) (fun hb12 => ?_)
      · have hm := ifT hb12 hm
        refine WK_seq ?_
        refine WK_region ?_
        refine WO_pure tbok 1 [(3, .pointer (some ⟨b3, 0, none⟩)), (4, .pointer (some ⟨b4, 0, none⟩)), (5, .pointer (some ⟨b5, 0, none⟩)), (6, .bool true)] rfl ⟨rfl, rfl, rfl, rfl, trivial⟩ ?_
        refine WO_end ?_
        cases hm
        exact WK_ret (ret_out (L := []) (RLc_tmp rfl RLc_nil) (List.nil_sublist _) rfl)
      · have hm := ifF hb12 hm
        refine WK_skip ?_
        refine WK_seq ?_
        refine WK_seq ?_
        obtain ⟨s13, hx14, hm⟩ := bind_some hm
        refine WK_meet [(5, .pointer (some ⟨b5, 0, none⟩)), (6, .bool false), (56, .bool s13)] (St w0 m m [[⟨b3, 24, [.int .i64 p0_0, .int .i64 p0_1, .int .i64 p0_2, .slice a_p0_3 p0_3.length c_p0_3]⟩], [⟨b4, 24, [.int .i64 p1_0, .int .i64 p1_1, .int .i64 p1_2, .slice a_p1_3 p1_3.length c_p1_3]⟩], [⟨b5, 35, [.int .i64 p2_0, .int .i64 p2_1, .int .i64 p2_2]⟩]]) ?_ (fun hk15 => ?_)
        · refine WK_cond (b := s13) rfl (fun hb16 => ?_) (fun hb16 => ?_)
          · have hm := ifT hb16 hm
            refine WK_seq ?_
            refine WK_region ?_
            refine WO_pure tbok 1 [(5, .pointer (some ⟨b5, 0, none⟩)), (6, .bool false)] rfl ⟨rfl, rfl, trivial⟩ ?_
            refine WO_end ?_
            cases hm
            exact WK_ret (ret_out (L := []) (RLc_tmp rfl RLc_nil) (List.nil_sublist _) rfl)
          · have hm := ifF hb16 hm
            refine WK_skip ?_
            refine WK_seq ?_
            refine WK_region ?_
            refine WO_pure tbok 1 [(5, .pointer (some ⟨b5, 0, none⟩)), (6, .bool false), (58, .pointer (some ⟨b5, 0, none⟩))] rfl ⟨rfl, rfl, rfl, trivial⟩ ?_
            refine WO_loadB tbok 2 rfl rfl rfl rfl (fun _ h => h) rfl rfl ?_
            refine WO_pure tbok 1 [(5, .pointer (some ⟨b5, 0, none⟩)), (6, .bool false), (59, .int .i64 p2_0), (60, .pointer (some ⟨b5, 1, none⟩))] rfl ⟨rfl, rfl, rfl, rfl, trivial⟩ ?_
            refine WO_loadB tbok 2 rfl rfl rfl rfl (fun _ h => h) rfl rfl ?_
            refine WO_pure tbok 1 [(5, .pointer (some ⟨b5, 0, none⟩)), (6, .bool false), (59, .int .i64 p2_0), (61, .int .i64 p2_1), (62, .pointer (some ⟨b5, 2, none⟩))] rfl ⟨rfl, rfl, rfl, rfl, rfl, trivial⟩ ?_
            refine WO_loadB tbok 2 rfl rfl rfl rfl (fun _ h => h) rfl rfl ?_
            obtain ⟨⟨y17, y18, y19, y20, y21⟩, hc22, hm⟩ := bind_some hm
            refine WO_call1 (raster_New_Q (y17, y18, y19, y20, y21)) rfl rfl trivial rfl rfl rfl rfl ⟨23, #[], #[], rfl, callable_23, fun w hw => ⟨_, hw.sat, raster_New_walk hc22⟩⟩ (fun v27 L26 hq => ?_)
            obtain ⟨a23, qa23, c24, rfl, hL26⟩ := hq
            obtain rfl := OwnE.qlen hL26
            refine WO.cls (C' := St w0 m m [[⟨b3, 24, [.int .i64 p0_0, .int .i64 p0_1, .int .i64 p0_2, .slice a_p0_3 p0_3.length c_p0_3]⟩], [⟨b4, 24, [.int .i64 p1_0, .int .i64 p1_1, .int .i64 p1_2, .slice a_p1_3 p1_3.length c_p1_3]⟩], [⟨b5, 35, [.int .i64 p2_0, .int .i64 p2_1, .int .i64 p2_2]⟩], L26]) (fun _ h => h) ?_
            refine WO_pure tbok 3 [(5, .pointer (some ⟨b5, 0, none⟩)), (6, .bool false), (65, .agg #[.int .i64 y17, .int .i64 y18, .int .i64 y19, .slice a23 ((y20).length) c24]), (66, .int .i64 y21)] rfl ⟨rfl, rfl, rfl, rfl, trivial⟩ ?_
            refine WO_alloc tbok [.int .i64 0, .int .i64 0, .int .i64 0, .slice none 0 0] rfl rfl trivial rfl rfl rfl rfl (fun b28 => ?_)
            refine WO.cls (C' := St w0 m m [[⟨b3, 24, [.int .i64 p0_0, .int .i64 p0_1, .int .i64 p0_2, .slice a_p0_3 p0_3.length c_p0_3]⟩], [⟨b4, 24, [.int .i64 p1_0, .int .i64 p1_1, .int .i64 p1_2, .slice a_p1_3 p1_3.length c_p1_3]⟩], [⟨b5, 35, [.int .i64 p2_0, .int .i64 p2_1, .int .i64 p2_2]⟩], L26, [⟨b28, 24, [.int .i64 0, .int .i64 0, .int .i64 0, .slice none 0 0]⟩]]) (fun _ h => h) ?_
            refine WO_storeB tbok 4 [.int .i64 y17, .int .i64 y18, .int .i64 y19, .slice a23 ((y20).length) c24] rfl rfl rfl rfl rfl rfl rfl ?_
            refine WO.cls (C' := St w0 m m [[⟨b3, 24, [.int .i64 p0_0, .int .i64 p0_1, .int .i64 p0_2, .slice a_p0_3 p0_3.length c_p0_3]⟩], [⟨b4, 24, [.int .i64 p1_0, .int .i64 p1_1, .int .i64 p1_2, .slice a_p1_3 p1_3.length c_p1_3]⟩], [⟨b5, 35, [.int .i64 p2_0, .int .i64 p2_1, .int .i64 p2_2]⟩], L26, [⟨b28, 24, [.int .i64 y17, .int .i64 y18, .int .i64 y19, .slice a23 ((y20).length) c24]⟩]]) (fun _ h => h) ?_
            refine WO_pure tbok 1 [(5, .pointer (some ⟨b5, 0, none⟩)), (6, .bool false), (7, .pointer (some ⟨b28, 0, none⟩)), (8, .int .i64 y21)] rfl ⟨rfl, rfl, rfl, rfl, trivial⟩ ?_
            refine WO_end ?_
            refine WK_seq ?_
            refine WK_seq ?_
            obtain ⟨s29, hx30, hm⟩ := bind_some hm
            refine WK_meet [(5, .pointer (some ⟨b5, 0, none⟩)), (6, .bool false), (7, .pointer (some ⟨b28, 0, none⟩)), (8, .int .i64 y21), (94, .bool s29)] (St w0 m m [[⟨b3, 24, [.int .i64 p0_0, .int .i64 p0_1, .int .i64 p0_2, .slice a_p0_3 p0_3.length c_p0_3]⟩], [⟨b4, 24, [.int .i64 p1_0, .int .i64 p1_1, .int .i64 p1_2, .slice a_p1_3 p1_3.length c_p1_3]⟩], [⟨b5, 35, [.int .i64 p2_0, .int .i64 p2_1, .int .i64 p2_2]⟩], L26, [⟨b28, 24, [.int .i64 y17, .int .i64 y18, .int .i64 y19, .slice a23 ((y20).length) c24]⟩]]) ?_ (fun hk31 => ?_)
            · refine WK_cond (b := s29) rfl (fun hb32 => ?_) (fun hb32 => ?_)
              · have hm := ifT hb32 hm
                refine WK_seq ?_
                refine WK_region ?_
                refine WO_pure tbok 3 [(5, .pointer (some ⟨b5, 0, none⟩)), (6, .bool false), (7, .pointer (some ⟨b28, 0, none⟩)), (8, .int .i64 y21), (97, .bool (y21 == 2))] rfl ⟨rfl, rfl, rfl, rfl, rfl, trivial⟩ ?_
                refine WO_split (d := 97) (b := y21 == 2) rfl (fun hb33 => ?_) (fun hb33 => ?_)
                · have hm := ifT hb33 hm
                  refine WO_loadB tbok 4 rfl rfl rfl rfl (fun _ h => h) rfl rfl ?_
                  obtain ⟨y34, hc35, hm⟩ := bind_some hm
                  refine WO_call0 (.bool y34) rfl rfl trivial rfl rfl rfl rfl St_closed ⟨16, #[], #[], rfl, callable_16, fun w hw => ⟨_, hw.satV, fiduciallaw13_empty_walk (OwnE.rd (E := (I1 .i64)) (k := 1) (fun _ => rfl) hL26 (fun _ hx => hw.memV (i := 3) rfl hx)) hc35⟩⟩ ?_
                  refine WO_pure tbok 2 [(5, .pointer (some ⟨b5, 0, none⟩)), (6, .bool y34), (7, .pointer (some ⟨b28, 0, none⟩)), (8, .int .i64 y21)] rfl ⟨rfl, rfl, rfl, rfl, trivial⟩ ?_
                  refine WO_end ?_
                  cases hm
                  exact WK_ret (ret_out (L := []) (RLc_tmp rfl RLc_nil) (List.nil_sublist _) rfl)
                · have hm := ifF hb33 hm
                  refine WO_pure tbok 1 [(5, .pointer (some ⟨b5, 0, none⟩)), (6, .bool false), (7, .pointer (some ⟨b28, 0, none⟩)), (8, .int .i64 y21), (97, .bool false)] rfl ⟨rfl, rfl, rfl, rfl, rfl, trivial⟩ ?_
                  refine WO_skip rfl rfl ?_
                  refine WO_pure tbok 2 [(5, .pointer (some ⟨b5, 0, none⟩)), (6, .bool false), (7, .pointer (some ⟨b28, 0, none⟩)), (8, .int .i64 y21)] rfl ⟨rfl, rfl, rfl, rfl, trivial⟩ ?_
                  refine WO_end ?_
                  cases hm
                  exact WK_ret (ret_out (L := []) (RLc_tmp rfl RLc_nil) (List.nil_sublist _) rfl)
              · have hm := ifF hb32 hm
                refine WK_skip ?_
                refine WK_seq ?_
                refine WK_draw 14 [0, 1, 2, 3, 4, 5, 6, 7, 8, 9, 10, 11, 12, 13] follows_ok (by kernel_rfl) St_closed ?_
                refine WO_pure tbok 3 [(5, .pointer (some ⟨b5, 0, none⟩)), (6, .bool false), (7, .pointer (some ⟨b28, 0, none⟩)), (103, .bool (y21 == 0))] rfl ⟨rfl, rfl, rfl, rfl, trivial⟩ ?_
                refine WO_split (d := 103) (b := y21 == 0) rfl (fun hb36 => ?_) (fun hb36 => ?_)
                · have hm := ifT hb36 hm
                  refine WO_loadB tbok 4 rfl rfl rfl rfl (fun _ h => h) rfl rfl ?_
                  refine WO_pure tbok 1 [(5, .pointer (some ⟨b5, 0, none⟩)), (6, .bool false), (103, .bool true), (104, .agg #[.int .i64 y17, .int .i64 y18, .int .i64 y19, .slice a23 ((y20).length) c24]), (105, .pointer (some ⟨b5, 0, none⟩))] rfl ⟨rfl, rfl, rfl, rfl, rfl, trivial⟩ ?_
                  refine WO_loadB tbok 2 rfl rfl rfl rfl (fun _ h => h) rfl rfl ?_
                  refine WO_pure tbok 1 [(5, .pointer (some ⟨b5, 0, none⟩)), (6, .bool false), (103, .bool true), (104, .agg #[.int .i64 y17, .int .i64 y18, .int .i64 y19, .slice a23 ((y20).length) c24]), (106, .int .i64 p2_0), (107, .pointer (some ⟨b5, 1, none⟩))] rfl ⟨rfl, rfl, rfl, rfl, rfl, rfl, trivial⟩ ?_
                  refine WO_loadB tbok 2 rfl rfl rfl rfl (fun _ h => h) rfl rfl ?_
                  refine WO_pure tbok 1 [(6, .bool false), (103, .bool true), (104, .agg #[.int .i64 y17, .int .i64 y18, .int .i64 y19, .slice a23 ((y20).length) c24]), (106, .int .i64 p2_0), (108, .int .i64 p2_1), (109, .pointer (some ⟨b5, 2, none⟩))] rfl ⟨rfl, rfl, rfl, rfl, rfl, rfl, trivial⟩ ?_
                  refine WO_loadB tbok 2 rfl rfl rfl rfl (fun _ h => h) rfl rfl ?_
                  obtain ⟨⟨y37, y38, y39, y40⟩, hc41, hm⟩ := bind_some hm
                  refine WO_call1 (fiducialref13_New_Q (y37, y38, y39, y40)) rfl rfl St_closed rfl rfl rfl rfl ⟨24, #[], #[], rfl, callable_24, fun w hw => ⟨_, hw.sat, fiducialref13_New_walk hc41⟩⟩ (fun v46 L45 hq => ?_)
                  obtain ⟨a42, qa42, c43, rfl, hL45⟩ := hq
                  obtain rfl := OwnE.qlen hL45
                  refine WO.cls (C' := St w0 m m [[⟨b3, 24, [.int .i64 p0_0, .int .i64 p0_1, .int .i64 p0_2, .slice a_p0_3 p0_3.length c_p0_3]⟩], [⟨b4, 24, [.int .i64 p1_0, .int .i64 p1_1, .int .i64 p1_2, .slice a_p1_3 p1_3.length c_p1_3]⟩], [⟨b5, 35, [.int .i64 p2_0, .int .i64 p2_1, .int .i64 p2_2]⟩], L26, [⟨b28, 24, [.int .i64 y17, .int .i64 y18, .int .i64 y19, .slice a23 ((y20).length) c24]⟩], L45]) (fun _ h => h) ?_
                  obtain ⟨y47, hc48, hm⟩ := bind_some hm
                  refine WO_call0 (.bool y47) rfl rfl St_closed rfl rfl rfl rfl St_closed ⟨17, #[], #[], rfl, callable_17, fun w hw => ⟨_, hw.satV, fiducialref13_Equal_walk (OwnE.rd (E := (I1 .i64)) (k := 1) (fun _ => rfl) hL26 (fun _ hx => hw.memV (i := 3) rfl hx)) (OwnE.rd (E := (I1 .i64)) (k := 1) (fun _ => rfl) hL45 (fun _ hx => hw.memV (i := 5) rfl hx)) hc48⟩⟩ ?_
                  refine WO_pure tbok 2 [(6, .bool y47)] rfl ⟨rfl, trivial⟩ ?_
                  refine WO_tail ?_
                  refine WO_end ?_
                  cases hm
                  exact WK_ret (ret_out (L := []) (RLc_tmp rfl RLc_nil) (List.nil_sublist _) rfl)
                · have hm := ifF hb36 hm
                  refine WO_pure tbok 7 [(6, .bool false), (103, .bool false)] rfl ⟨rfl, rfl, trivial⟩ ?_
                  refine WO_skip rfl rfl ?_
                  refine WO_skip rfl rfl ?_
                  refine WO_pure tbok 2 [(6, .bool false)] rfl ⟨rfl, trivial⟩ ?_
                  refine WO_tail ?_
                  refine WO_end ?_
                  cases hm
                  exact WK_ret (ret_out (L := []) (RLc_tmp rfl RLc_nil) (List.nil_sublist _) rfl)
            · refine WK_region ?_
              refine WO_pure tbok 1 [(5, .pointer (some ⟨b5, 0, none⟩)), (6, .bool false), (7, .pointer (some ⟨b28, 0, none⟩)), (8, .int .i64 y21), (67, .pointer (some ⟨b5, 0, none⟩))] rfl ⟨rfl, rfl, rfl, rfl, rfl, trivial⟩ ?_
              refine WO_loadB tbok 2 rfl rfl rfl rfl (fun _ h => h) rfl rfl ?_
              refine WO_pure tbok 2 [(5, .pointer (some ⟨b5, 0, none⟩)), (6, .bool false), (7, .pointer (some ⟨b28, 0, none⟩)), (8, .int .i64 y21), (70, .bool (decide (p2_0 < 1)))] rfl ⟨rfl, rfl, rfl, rfl, rfl, trivial⟩ ?_
              refine WO_split (d := 70) (b := decide (p2_0 < 1)) rfl (fun hb49 => ?_) (fun hb49 => ?_)
              · have hx30 := ifT hb49 hx30
                refine WO_pure tbok 24 [(5, .pointer (some ⟨b5, 0, none⟩)), (6, .bool false), (7, .pointer (some ⟨b28, 0, none⟩)), (8, .int .i64 y21), (94, .bool true)] rfl ⟨rfl, rfl, rfl, rfl, rfl, trivial⟩ ?_
                refine WO_end ?_
                cases hx30
                refine WK.sub ?_ (WK.cls (fun _ h => h) hk31)
                exact ⟨rfl, rfl, rfl, rfl, rfl, trivial⟩
              · have hx30 := ifF hb49 hx30
                refine WO_pure tbok 1 [(5, .pointer (some ⟨b5, 0, none⟩)), (6, .bool false), (7, .pointer (some ⟨b28, 0, none⟩)), (8, .int .i64 y21), (70, .bool false), (71, .pointer (some ⟨b5, 0, none⟩))] rfl ⟨rfl, rfl, rfl, rfl, rfl, rfl, trivial⟩ ?_
                refine WO_loadB tbok 2 rfl rfl rfl rfl (fun _ h => h) rfl rfl ?_
                refine WO_pure tbok 3 [(5, .pointer (some ⟨b5, 0, none⟩)), (6, .bool false), (7, .pointer (some ⟨b28, 0, none⟩)), (8, .int .i64 y21), (75, .bool (decide (64 < p2_0)))] rfl ⟨rfl, rfl, rfl, rfl, rfl, trivial⟩ ?_
                refine WO_split (d := 75) (b := decide (64 < p2_0)) rfl (fun hb50 => ?_) (fun hb50 => ?_)
                · have hx30 := ifT hb50 hx30
                  refine WO_pure tbok 19 [(5, .pointer (some ⟨b5, 0, none⟩)), (6, .bool false), (7, .pointer (some ⟨b28, 0, none⟩)), (8, .int .i64 y21), (94, .bool true)] rfl ⟨rfl, rfl, rfl, rfl, rfl, trivial⟩ ?_
                  refine WO_end ?_
                  cases hx30
                  refine WK.sub ?_ (WK.cls (fun _ h => h) hk31)
                  exact ⟨rfl, rfl, rfl, rfl, rfl, trivial⟩
                · have hx30 := ifF hb50 hx30
                  refine WO_pure tbok 1 [(5, .pointer (some ⟨b5, 0, none⟩)), (6, .bool false), (7, .pointer (some ⟨b28, 0, none⟩)), (8, .int .i64 y21), (75, .bool false), (76, .pointer (some ⟨b5, 1, none⟩))] rfl ⟨rfl, rfl, rfl, rfl, rfl, rfl, trivial⟩ ?_
                  refine WO_loadB tbok 2 rfl rfl rfl rfl (fun _ h => h) rfl rfl ?_
                  refine WO_pure tbok 3 [(5, .pointer (some ⟨b5, 0, none⟩)), (6, .bool false), (7, .pointer (some ⟨b28, 0, none⟩)), (8, .int .i64 y21), (80, .bool (decide (p2_1 < 1)))] rfl ⟨rfl, rfl, rfl, rfl, rfl, trivial⟩ ?_
                  refine WO_split (d := 80) (b := decide (p2_1 < 1)) rfl (fun hb51 => ?_) (fun hb51 => ?_)
                  · have hx30 := ifT hb51 hx30
                    refine WO_pure tbok 14 [(5, .pointer (some ⟨b5, 0, none⟩)), (6, .bool false), (7, .pointer (some ⟨b28, 0, none⟩)), (8, .int .i64 y21), (94, .bool true)] rfl ⟨rfl, rfl, rfl, rfl, rfl, trivial⟩ ?_
                    refine WO_end ?_
                    cases hx30
                    refine WK.sub ?_ (WK.cls (fun _ h => h) hk31)
                    exact ⟨rfl, rfl, rfl, rfl, rfl, trivial⟩
                  · have hx30 := ifF hb51 hx30
                    refine WO_pure tbok 1 [(5, .pointer (some ⟨b5, 0, none⟩)), (6, .bool false), (7, .pointer (some ⟨b28, 0, none⟩)), (8, .int .i64 y21), (80, .bool false), (81, .pointer (some ⟨b5, 1, none⟩))] rfl ⟨rfl, rfl, rfl, rfl, rfl, rfl, trivial⟩ ?_
                    refine WO_loadB tbok 2 rfl rfl rfl rfl (fun _ h => h) rfl rfl ?_
                    refine WO_pure tbok 3 [(5, .pointer (some ⟨b5, 0, none⟩)), (6, .bool false), (7, .pointer (some ⟨b28, 0, none⟩)), (8, .int .i64 y21), (85, .bool (decide (64 < p2_1)))] rfl ⟨rfl, rfl, rfl, rfl, rfl, trivial⟩ ?_
                    refine WO_split (d := 85) (b := decide (64 < p2_1)) rfl (fun hb52 => ?_) (fun hb52 => ?_)
                    · have hx30 := ifT hb52 hx30
                      refine WO_pure tbok 9 [(5, .pointer (some ⟨b5, 0, none⟩)), (6, .bool false), (7, .pointer (some ⟨b28, 0, none⟩)), (8, .int .i64 y21), (94, .bool true)] rfl ⟨rfl, rfl, rfl, rfl, rfl, trivial⟩ ?_
                      refine WO_end ?_
                      cases hx30
                      refine WK.sub ?_ (WK.cls (fun _ h => h) hk31)
                      exact ⟨rfl, rfl, rfl, rfl, rfl, trivial⟩
                    · have hx30 := ifF hb52 hx30
                      refine WO_pure tbok 1 [(5, .pointer (some ⟨b5, 0, none⟩)), (6, .bool false), (7, .pointer (some ⟨b28, 0, none⟩)), (8, .int .i64 y21), (85, .bool false), (86, .pointer (some ⟨b5, 2, none⟩))] rfl ⟨rfl, rfl, rfl, rfl, rfl, rfl, trivial⟩ ?_
                      refine WO_loadB tbok 2 rfl rfl rfl rfl (fun _ h => h) rfl rfl ?_
                      refine WO_pure tbok 3 [(5, .pointer (some ⟨b5, 0, none⟩)), (6, .bool false), (7, .pointer (some ⟨b28, 0, none⟩)), (8, .int .i64 y21), (90, .bool (decide (p2_2 < 1)))] rfl ⟨rfl, rfl, rfl, rfl, rfl, trivial⟩ ?_
                      refine WO_split (d := 90) (b := decide (p2_2 < 1)) rfl (fun hb53 => ?_) (fun hb53 => ?_)
                      · have hx30 := ifT hb53 hx30
                        refine WO_pure tbok 4 [(5, .pointer (some ⟨b5, 0, none⟩)), (6, .bool false), (7, .pointer (some ⟨b28, 0, none⟩)), (8, .int .i64 y21), (94, .bool true)] rfl ⟨rfl, rfl, rfl, rfl, rfl, trivial⟩ ?_
                        refine WO_end ?_
                        cases hx30
                        refine WK.sub ?_ (WK.cls (fun _ h => h) hk31)
                        exact ⟨rfl, rfl, rfl, rfl, rfl, trivial⟩
                      · have hx30 := ifF hb53 hx30
                        refine WO_pure tbok 1 [(5, .pointer (some ⟨b5, 0, none⟩)), (6, .bool false), (7, .pointer (some ⟨b28, 0, none⟩)), (8, .int .i64 y21), (90, .bool false), (91, .pointer (some ⟨b5, 2, none⟩))] rfl ⟨rfl, rfl, rfl, rfl, rfl, rfl, trivial⟩ ?_
                        refine WO_loadB tbok 2 rfl rfl rfl rfl (fun _ h => h) rfl rfl ?_
                        refine WO_pure tbok 2 [(5, .pointer (some ⟨b5, 0, none⟩)), (6, .bool false), (7, .pointer (some ⟨b28, 0, none⟩)), (8, .int .i64 y21), (94, .bool (decide (65535 < p2_2)))] rfl ⟨rfl, rfl, rfl, rfl, rfl, trivial⟩ ?_
                        refine WO_end ?_
                        cases hx30
                        refine WK.sub ?_ (WK.cls (fun _ h => h) hk31)
                        exact ⟨rfl, rfl, rfl, rfl, rfl, trivial⟩
        · refine WK_draw 21 [0, 2, 1, 3, 4, 5, 6, 7, 9, 10, 8, 11, 12, 13, 14, 15, 16, 17, 18, 19, 20] follows_ok (by kernel_rfl) St_closed ?_
          refine WO_loadB tbok 0 rfl rfl rfl rfl (fun _ h => h) rfl rfl ?_
          refine WO_loadB tbok 0 rfl rfl rfl rfl (fun _ h => h) rfl rfl ?_
          obtain ⟨y54, hc55, hx14⟩ := bind_some hx14
          refine WO_call0 (.int .i64 y54) rfl rfl St_closed rfl rfl rfl rfl St_closed ⟨20, #[], #[], rfl, callable_20, fun w hw => ⟨_, hw.sat, raster_Check_walk h_p0_3 hc55⟩⟩ ?_
          obtain ⟨y56, hc57, hx14⟩ := bind_some hx14
          refine WO_call0 (.int .i64 y56) rfl rfl St_closed rfl rfl rfl rfl St_closed ⟨15, #[], #[], rfl, callable_15, fun w hw => ⟨_, hw.sat, fiducialref13_Check_walk h_p0_3 hc57⟩⟩ ?_
          refine WO_pure tbok 2 [(3, .pointer (some ⟨b3, 0, none⟩)), (4, .pointer (some ⟨b4, 0, none⟩)), (5, .pointer (some ⟨b5, 0, none⟩)), (6, .bool false), (41, .bool (y54 != y56))] rfl ⟨rfl, rfl, rfl, rfl, rfl, trivial⟩ ?_
          refine WO_split (d := 41) (b := y54 != y56) rfl (fun hb58 => ?_) (fun hb58 => ?_)
          · have hx14 := ifT hb58 hx14
            refine WO_pure tbok 4 [(3, .pointer (some ⟨b3, 0, none⟩)), (5, .pointer (some ⟨b5, 0, none⟩)), (6, .bool false), (41, .bool true)] rfl ⟨rfl, rfl, rfl, rfl, trivial⟩ ?_
            refine WO_skip rfl rfl ?_
            refine WO_skip rfl rfl ?_
            refine WO_pure tbok 5 [(5, .pointer (some ⟨b5, 0, none⟩)), (6, .bool false), (50, .bool true)] rfl ⟨rfl, rfl, rfl, trivial⟩ ?_
            refine WO_skip rfl rfl ?_
            refine WO_skip rfl rfl ?_
            refine WO_pure tbok 2 [(5, .pointer (some ⟨b5, 0, none⟩)), (6, .bool false), (56, .bool true)] rfl ⟨rfl, rfl, rfl, trivial⟩ ?_
            refine WO_tail ?_
            refine WO_end ?_
            cases hx14
            refine WK.sub ?_ (WK.cls (fun _ h => h) hk15)
            exact ⟨rfl, rfl, rfl, trivial⟩
          · have hx14 := ifF hb58 hx14
            refine WO_loadB tbok 0 rfl rfl rfl rfl (fun _ h => h) rfl rfl ?_
            refine WO_loadB tbok 1 rfl rfl rfl rfl (fun _ h => h) rfl rfl ?_
            refine WO_loadB tbok 0 rfl rfl rfl rfl (fun _ h => h) rfl rfl ?_
            refine WO_loadB tbok 1 rfl rfl rfl rfl (fun _ h => h) rfl rfl ?_
            obtain ⟨y59, hc60, hx14⟩ := bind_some hx14
            refine WO_call0 (.bool y59) rfl rfl St_closed rfl rfl rfl rfl St_closed ⟨21, #[], #[], rfl, callable_21, fun w hw => ⟨_, hw.sat, raster_Equal_walk h_p0_3 h_p1_3 hc60⟩⟩ ?_
            obtain ⟨y61, hc62, hx14⟩ := bind_some hx14
            refine WO_call0 (.bool y61) rfl rfl St_closed rfl rfl rfl rfl St_closed ⟨17, #[], #[], rfl, callable_17, fun w hw => ⟨_, hw.sat, fiducialref13_Equal_walk h_p0_3 h_p1_3 hc62⟩⟩ ?_
            refine WO_pure tbok 3 [(3, .pointer (some ⟨b3, 0, none⟩)), (5, .pointer (some ⟨b5, 0, none⟩)), (6, .bool false), (50, .bool (!(y59 == y61)))] rfl ⟨rfl, rfl, rfl, rfl, trivial⟩ ?_
            refine WO_split (d := 50) (b := !(y59 == y61)) rfl (fun hb63 => ?_) (fun hb63 => ?_)
            · have hx14 := ifT hb63 hx14
              refine WO_pure tbok 2 [(5, .pointer (some ⟨b5, 0, none⟩)), (6, .bool false), (50, .bool true)] rfl ⟨rfl, rfl, rfl, trivial⟩ ?_
              refine WO_skip rfl rfl ?_
              refine WO_skip rfl rfl ?_
              refine WO_pure tbok 2 [(5, .pointer (some ⟨b5, 0, none⟩)), (6, .bool false), (56, .bool true)] rfl ⟨rfl, rfl, rfl, trivial⟩ ?_
              refine WO_tail ?_
              refine WO_end ?_
              cases hx14
              refine WK.sub ?_ (WK.cls (fun _ h => h) hk15)
              exact ⟨rfl, rfl, rfl, trivial⟩
            · have hx14 := ifF hb63 hx14
              refine WO_loadB tbok 0 rfl rfl rfl rfl (fun _ h => h) rfl rfl ?_
              refine WO_loadB tbok 0 rfl rfl rfl rfl (fun _ h => h) rfl rfl ?_
              obtain ⟨⟨y64, y65, y66, y67⟩, hc68, hx14⟩ := bind_some hx14
              refine WO_call1 (fiducialref13_Copy_Q (y64, y65, y66, y67)) rfl rfl St_closed rfl rfl rfl rfl ⟨22, #[], #[], rfl, callable_22, fun w hw => ⟨_, hw.sat, fiducialref13_Copy_walk h_p0_3 hc68⟩⟩ (fun v73 L72 hq => ?_)
              obtain ⟨a69, qa69, c70, rfl, hL72⟩ := hq
              obtain rfl := OwnE.qlen hL72
              refine WO.cls (C' := St w0 m m [[⟨b3, 24, [.int .i64 p0_0, .int .i64 p0_1, .int .i64 p0_2, .slice a_p0_3 p0_3.length c_p0_3]⟩], [⟨b4, 24, [.int .i64 p1_0, .int .i64 p1_1, .int .i64 p1_2, .slice a_p1_3 p1_3.length c_p1_3]⟩], [⟨b5, 35, [.int .i64 p2_0, .int .i64 p2_1, .int .i64 p2_2]⟩], L72]) (fun _ h => h) ?_
              obtain ⟨y74, hc75, hx14⟩ := bind_some hx14
              refine WO_call0 (.bool y74) rfl rfl St_closed rfl rfl rfl rfl St_closed ⟨21, #[], #[], rfl, callable_21, fun w hw => ⟨_, hw.satV, raster_Equal_walk (h_p0_3.mono (mono_FE _) hw.leV) (OwnE.rd (E := (I1 .i64)) (k := 1) (fun _ => rfl) hL72 (fun _ hx => hw.memV (i := 3) rfl hx)) hc75⟩⟩ ?_
              refine WO_pure tbok 2 [(5, .pointer (some ⟨b5, 0, none⟩)), (6, .bool false), (56, .bool (!y74))] rfl ⟨rfl, rfl, rfl, trivial⟩ ?_
              refine WO_tail ?_
              refine WO_end ?_
              cases hx14
              refine WK.sub ?_ (WK.cls (fun _ h => St.take 3 h) hk15)
              exact ⟨rfl, rfl, rfl, trivial⟩
    · refine WK_region ?_
      refine WO_loadB tbok 0 rfl rfl rfl rfl (fun _ h => h) rfl rfl ?_
      refine WO_loadB tbok 1 rfl rfl rfl rfl (fun _ h => h) rfl rfl ?_
      refine WO_bsliceX (E := V4) (El := El24) tbok (fun _ => rfl) (by decide) [.agg #[.int .i64 p0_0, .int .i64 p0_1, .int .i64 p0_2, .slice a_p0_3 p0_3.length c_p0_3], .agg #[.int .i64 p1_0, .int .i64 p1_1, .int .i64 p1_2, .slice a_p1_3 p1_3.length c_p1_3]] [(.int .i64 p0_0, .int .i64 p0_1, .int .i64 p0_2, .slice a_p0_3 p0_3.length c_p0_3), (.int .i64 p1_0, .int .i64 p1_1, .int .i64 p1_2, .slice a_p1_3 p1_3.length c_p1_3)] ([(p0_0, p0_1, p0_2, p0_3), (p1_0, p1_1, p1_2, p1_3)] : List (Int × Int × Int × List Int)) rfl rfl trivial rfl rfl rfl rfl rfl rfl rfl rfl rfl rfl rfl rfl ⟨⟨_, _, _, rfl, h_p0_3⟩, ⟨_, _, _, rfl, h_p1_3⟩, trivial⟩ (fun b76 hb76 => ?_)
      refine WO.cls (C' := St w0 m m [[⟨b3, 24, [.int .i64 p0_0, .int .i64 p0_1, .int .i64 p0_2, .slice a_p0_3 p0_3.length c_p0_3]⟩], [⟨b4, 24, [.int .i64 p1_0, .int .i64 p1_1, .int .i64 p1_2, .slice a_p1_3 p1_3.length c_p1_3]⟩], [⟨b5, 35, [.int .i64 p2_0, .int .i64 p2_1, .int .i64 p2_2]⟩], [⟨b76, 24, [.int .i64 p0_0, .int .i64 p0_1, .int .i64 p0_2, .slice a_p0_3 p0_3.length c_p0_3, .int .i64 p1_0, .int .i64 p1_1, .int .i64 p1_2, .slice a_p1_3 p1_3.length c_p1_3]⟩]]) (fun _ h => h) ?_
      obtain ⟨y78, hc79, hx10⟩ := bind_some hx10
      refine WO_call0 (.bool y78) rfl rfl trivial rfl rfl rfl rfl St_closed ⟨12, #[], #[], rfl, callable_12, fun w hw => ⟨_, hw.satV, fiduciallaw13_few_walk (OwnX.rd (E := V4) (k := 4) (fun _ => rfl) hb76 mono_El24 hw.leV (fun _ hx => hw.memV (i := 3) rfl hx)) hc79⟩⟩ ?_
      refine WO_pure tbok 2 [(3, .pointer (some ⟨b3, 0, none⟩)), (4, .pointer (some ⟨b4, 0, none⟩)), (5, .pointer (some ⟨b5, 0, none⟩)), (6, .bool false), (16, .bool (!y78))] rfl ⟨rfl, rfl, rfl, rfl, rfl, trivial⟩ ?_
      refine WO_split (d := 16) (b := !y78) rfl (fun hb80 => ?_) (fun hb80 => ?_)
      · have hx10 := ifT hb80 hx10
        refine WO_pure tbok 19 [(3, .pointer (some ⟨b3, 0, none⟩)), (4, .pointer (some ⟨b4, 0, none⟩)), (5, .pointer (some ⟨b5, 0, none⟩)), (6, .bool false), (35, .bool true)] rfl ⟨rfl, rfl, rfl, rfl, rfl, trivial⟩ ?_
        refine WO_end ?_
        cases hx10
        refine WK.sub ?_ (WK.cls (fun _ h => St.take 3 h) hk11)
        exact ⟨rfl, rfl, rfl, rfl, rfl, trivial⟩
      · have hx10 := ifF hb80 hx10
        refine WO_pure tbok 1 [(3, .pointer (some ⟨b3, 0, none⟩)), (4, .pointer (some ⟨b4, 0, none⟩)), (5, .pointer (some ⟨b5, 0, none⟩)), (6, .bool false), (16, .bool false), (17, .pointer (some ⟨b5, 0, none⟩))] rfl ⟨rfl, rfl, rfl, rfl, rfl, rfl, trivial⟩ ?_
        refine WO_loadB tbok 2 rfl rfl rfl rfl (fun _ h => h) rfl rfl ?_
        refine WO_pure tbok 2 [(3, .pointer (some ⟨b3, 0, none⟩)), (4, .pointer (some ⟨b4, 0, none⟩)), (5, .pointer (some ⟨b5, 0, none⟩)), (6, .bool false), (16, .bool false), (20, .bool (decide (20 < p2_0)))] rfl ⟨rfl, rfl, rfl, rfl, rfl, rfl, trivial⟩ ?_
        refine WO_split (d := 20) (b := decide (20 < p2_0)) rfl (fun hb81 => ?_) (fun hb81 => ?_)
        · have hx10 := ifT hb81 hx10
          refine WO_pure tbok 1 [(3, .pointer (some ⟨b3, 0, none⟩)), (4, .pointer (some ⟨b4, 0, none⟩)), (5, .pointer (some ⟨b5, 0, none⟩)), (6, .bool false), (16, .bool false), (20, .bool true), (21, .pointer (some ⟨b5, 0, none⟩))] rfl ⟨rfl, rfl, rfl, rfl, rfl, rfl, rfl, trivial⟩ ?_
          refine WO_loadB tbok 2 rfl rfl rfl rfl (fun _ h => h) rfl rfl ?_
          refine WO_pure tbok 4 [(3, .pointer (some ⟨b3, 0, none⟩)), (4, .pointer (some ⟨b4, 0, none⟩)), (5, .pointer (some ⟨b5, 0, none⟩)), (6, .bool false), (26, .bool (decide (p2_0 ≤ 64)))] rfl ⟨rfl, rfl, rfl, rfl, rfl, trivial⟩ ?_
          refine WO_split (d := 26) (b := decide (p2_0 ≤ 64)) rfl (fun hb82 => ?_) (fun hb82 => ?_)
          · have hx10 := ifT hb82 hx10
            refine WO_pure tbok 9 [(3, .pointer (some ⟨b3, 0, none⟩)), (4, .pointer (some ⟨b4, 0, none⟩)), (5, .pointer (some ⟨b5, 0, none⟩)), (6, .bool false), (35, .bool true)] rfl ⟨rfl, rfl, rfl, rfl, rfl, trivial⟩ ?_
            refine WO_end ?_
            cases hx10
            refine WK.sub ?_ (WK.cls (fun _ h => St.take 3 h) hk11)
            exact ⟨rfl, rfl, rfl, rfl, rfl, trivial⟩
          · have hx10 := ifF hb82 hx10
            refine WO_pure tbok 1 [(3, .pointer (some ⟨b3, 0, none⟩)), (4, .pointer (some ⟨b4, 0, none⟩)), (5, .pointer (some ⟨b5, 0, none⟩)), (6, .bool false), (26, .bool false), (27, .pointer (some ⟨b5, 1, none⟩))] rfl ⟨rfl, rfl, rfl, rfl, rfl, rfl, trivial⟩ ?_
            refine WO_loadB tbok 2 rfl rfl rfl rfl (fun _ h => h) rfl rfl ?_
            refine WO_pure tbok 2 [(3, .pointer (some ⟨b3, 0, none⟩)), (4, .pointer (some ⟨b4, 0, none⟩)), (5, .pointer (some ⟨b5, 0, none⟩)), (6, .bool false), (26, .bool false), (30, .bool (decide (20 < p2_1)))] rfl ⟨rfl, rfl, rfl, rfl, rfl, rfl, trivial⟩ ?_
            refine WO_split (d := 30) (b := decide (20 < p2_1)) rfl (fun hb83 => ?_) (fun hb83 => ?_)
            · have hx10 := ifT hb83 hx10
              refine WO_pure tbok 1 [(3, .pointer (some ⟨b3, 0, none⟩)), (4, .pointer (some ⟨b4, 0, none⟩)), (5, .pointer (some ⟨b5, 0, none⟩)), (6, .bool false), (26, .bool false), (30, .bool true), (31, .pointer (some ⟨b5, 1, none⟩))] rfl ⟨rfl, rfl, rfl, rfl, rfl, rfl, rfl, trivial⟩ ?_
              refine WO_loadB tbok 2 rfl rfl rfl rfl (fun _ h => h) rfl rfl ?_
              refine WO_pure tbok 3 [(3, .pointer (some ⟨b3, 0, none⟩)), (4, .pointer (some ⟨b4, 0, none⟩)), (5, .pointer (some ⟨b5, 0, none⟩)), (6, .bool false), (35, .bool (decide (p2_1 ≤ 64)))] rfl ⟨rfl, rfl, rfl, rfl, rfl, trivial⟩ ?_
              refine WO_end ?_
              cases hx10
              refine WK.sub ?_ (WK.cls (fun _ h => St.take 3 h) hk11)
              exact ⟨rfl, rfl, rfl, rfl, rfl, trivial⟩
            · have hx10 := ifF hb83 hx10
              refine WO_pure tbok 5 [(3, .pointer (some ⟨b3, 0, none⟩)), (4, .pointer (some ⟨b4, 0, none⟩)), (5, .pointer (some ⟨b5, 0, none⟩)), (6, .bool false), (35, .bool false)] rfl ⟨rfl, rfl, rfl, rfl, rfl, trivial⟩ ?_
              refine WO_end ?_
              cases hx10
              refine WK.sub ?_ (WK.cls (fun _ h => St.take 3 h) hk11)
              exact ⟨rfl, rfl, rfl, rfl, rfl, trivial⟩
        · have hx10 := ifF hb81 hx10
          refine WO_pure tbok 7 [(3, .pointer (some ⟨b3, 0, none⟩)), (4, .pointer (some ⟨b4, 0, none⟩)), (5, .pointer (some ⟨b5, 0, none⟩)), (6, .bool false), (26, .bool false), (27, .pointer (some ⟨b5, 1, none⟩))] rfl ⟨rfl, rfl, rfl, rfl, rfl, rfl, trivial⟩ ?_
          refine WO_loadB tbok 2 rfl rfl rfl rfl (fun _ h => h) rfl rfl ?_
          refine WO_pure tbok 2 [(3, .pointer (some ⟨b3, 0, none⟩)), (4, .pointer (some ⟨b4, 0, none⟩)), (5, .pointer (some ⟨b5, 0, none⟩)), (6, .bool false), (26, .bool false), (30, .bool (decide (20 < p2_1)))] rfl ⟨rfl, rfl, rfl, rfl, rfl, rfl, trivial⟩ ?_
          refine WO_split (d := 30) (b := decide (20 < p2_1)) rfl (fun hb84 => ?_) (fun hb84 => ?_)
          · have hx10 := ifT hb84 hx10
            refine WO_pure tbok 1 [(3, .pointer (some ⟨b3, 0, none⟩)), (4, .pointer (some ⟨b4, 0, none⟩)), (5, .pointer (some ⟨b5, 0, none⟩)), (6, .bool false), (26, .bool false), (30, .bool true), (31, .pointer (some ⟨b5, 1, none⟩))] rfl ⟨rfl, rfl, rfl, rfl, rfl, rfl, rfl, trivial⟩ ?_
            refine WO_loadB tbok 2 rfl rfl rfl rfl (fun _ h => h) rfl rfl ?_
            refine WO_pure tbok 3 [(3, .pointer (some ⟨b3, 0, none⟩)), (4, .pointer (some ⟨b4, 0, none⟩)), (5, .pointer (some ⟨b5, 0, none⟩)), (6, .bool false), (35, .bool (decide (p2_1 ≤ 64)))] rfl ⟨rfl, rfl, rfl, rfl, rfl, trivial⟩ ?_
            refine WO_end ?_
            cases hx10
            refine WK.sub ?_ (WK.cls (fun _ h => St.take 3 h) hk11)
            exact ⟨rfl, rfl, rfl, rfl, rfl, trivial⟩
          · have hx10 := ifF hb84 hx10
            refine WO_pure tbok 5 [(3, .pointer (some ⟨b3, 0, none⟩)), (4, .pointer (some ⟨b4, 0, none⟩)), (5, .pointer (some ⟨b5, 0, none⟩)), (6, .bool false), (35, .bool false)] rfl ⟨rfl, rfl, rfl, rfl, rfl, trivial⟩ ?_
            refine WO_end ?_
            cases hx10
            refine WK.sub ?_ (WK.cls (fun _ h => St.take 3 h) hk11)
            exact ⟨rfl, rfl, rfl, rfl, rfl, trivial⟩
def raster_Histogram_Q (r : List Int × Int) : Value → List Ent → Prop := fun v L => ∃ (a0 : Option Addr) (q0 c0 : Nat), v = .tuple #[.slice a0 q0 c0, .int .i64 r.2] ∧ OwnE 3 1 (I1 .i64) (.slice a0 q0 c0) r.1 L
theorem raster_Histogram_walk {m : Mu} {p0_0 : Int} {p0_1 : Int} {p0_2 : Int} {p0_3 : List Int} {a_p0_3 : Option Addr} {q_p0_3 c_p0_3 : Nat} (h_p0_3 : SlR (FE (I1 .i64)) 1 m (.slice a_p0_3 q_p0_3 c_p0_3) p0_3) {r : List Int × Int} (hm : raster_Histogram p0_0 p0_1 p0_2 p0_3 = some r) :
    Go.E.Spec Try.prog 25 [.agg #[.int .i64 p0_0, .int .i64 p0_1, .int .i64 p0_2, .slice a_p0_3 q_p0_3 c_p0_3]] m (fun v _ L => raster_Histogram_Q r v L) := by
  refine Spec_enter Try.func25 rfl rfl rfl (fun w0 => ?_)
  refine WK.sub (e' := [(0, .agg #[.int .i64 p0_0, .int .i64 p0_1, .int .i64 p0_2, .slice a_p0_3 q_p0_3 c_p0_3])]) ⟨rfl, trivial⟩ ?_
  obtain rfl := SlR.qlen h_p0_3
  refine WK.sub (e' := [(0, .agg #[.int .i64 p0_0, .int .i64 p0_1, .int .i64 p0_2, .slice a_p0_3 p0_3.length c_p0_3])]) ⟨rfl, trivial⟩ ?_
  unfold raster_Histogram at hm
  refine WK_seq ?_
  refine WK_region ?_
  refine WO_box [.int .i64 p0_0, .int .i64 p0_1, .int .i64 p0_2, .slice a_p0_3 p0_3.length c_p0_3] rfl rfl trivial rfl rfl rfl (fun b2 => ?_)
  refine WO.cls (C' := St w0 m m [[⟨b2, 24, [.int .i64 p0_0, .int .i64 p0_1, .int .i64 p0_2, .slice a_p0_3 p0_3.length c_p0_3]⟩]]) (fun _ h => h) ?_
  refine WO_pure tbok 2 [(1, .pointer (some ⟨b2, 0, none⟩)), (2, .slice none 0 0), (3, .int .i64 0)] rfl ⟨rfl, rfl, rfl, trivial⟩ ?_
  refine WO_end ?_
  refine WK_seq ?_
  refine WK_seq ?_
  refine WK_region ?_
  refine WO_loadB tbok 0 rfl rfl rfl rfl (fun _ h => h) rfl rfl ?_
  obtain ⟨y3, hc4, hm⟩ := bind_some hm
  refine WO_call0 (.int .i64 y3) rfl rfl trivial rfl rfl rfl rfl St_closed ⟨20, #[], #[], rfl, callable_20, fun w hw => ⟨_, hw.sat, raster_Check_walk h_p0_3 hc4⟩⟩ ?_
  refine WO_pure tbok 1 [(1, .pointer (some ⟨b2, 0, none⟩)), (2, .slice none 0 0), (3, .int .i64 0), (4, .int .i64 y3)] rfl ⟨rfl, rfl, rfl, rfl, trivial⟩ ?_
  refine WO_end ?_
  refine WK_seq ?_
  refine WK_region ?_
  refine WO_pure tbok 2 [(1, .pointer (some ⟨b2, 0, none⟩)), (2, .slice none 0 0), (3, .int .i64 0), (4, .int .i64 y3), (11, .bool (y3 != 0))] rfl ⟨rfl, rfl, rfl, rfl, rfl, trivial⟩ ?_
  refine WO_end ?_
  refine WK_cond (b := y3 != 0) rfl (fun hb5 => ?_) (fun hb5 => ?_)
  · have hm := ifT hb5 hm
    refine WK_seq ?_
    refine WK_region ?_
    refine WO_pure tbok 3 [(1, .pointer (some ⟨b2, 0, none⟩)), (2, .slice none 0 0), (3, .int .i64 y3)] rfl ⟨rfl, rfl, rfl, trivial⟩ ?_
    refine WO_end ?_
    cases hm
    exact WK_ret (ret_out (L := []) (RLc_tmp rfl (RLc_tmp rfl RLc_nil)) (List.nil_sublist _) ⟨none, 0, 0, rfl, (OwnE.nil none)⟩)
  · have hm := ifF hb5 hm
    refine WK_skip ?_
    refine WK_seq ?_
    refine WK_region ?_
    refine WO_pure tbok 1 [(1, .pointer (some ⟨b2, 0, none⟩)), (2, .slice none 0 0), (3, .int .i64 0), (13, .pointer (some ⟨b2, 2, none⟩))] rfl ⟨rfl, rfl, rfl, rfl, trivial⟩ ?_
    refine WO_loadB tbok 0 rfl rfl rfl rfl (fun _ h => h) rfl rfl ?_
    refine WO_pure tbok 1 [(1, .pointer (some ⟨b2, 0, none⟩)), (2, .slice none 0 0), (3, .int .i64 0), (15, .int .i64 (w64 (p0_2 + 1)))] rfl ⟨rfl, rfl, rfl, rfl, trivial⟩ ?_
    obtain ⟨hc6, hm⟩ := chk_some hm
    refine WO_make (E := (I1 .i64)) tbok (fun _ => rfl) (by decide) (0 : Int) rfl rfl trivial rfl rfl rfl rfl rfl rfl rfl rfl rfl (mk_ok (by decide) hc6) (fun b7 c8 L9 hL9 => ?_)
    refine WO.cls (C' := St w0 m m [[⟨b2, 24, [.int .i64 p0_0, .int .i64 p0_1, .int .i64 p0_2, .slice a_p0_3 p0_3.length c_p0_3]⟩], L9]) (fun _ h => h) ?_
    refine WO_pure tbok 1 [(1, .pointer (some ⟨b2, 0, none⟩)), (2, .slice none 0 0), (3, .int .i64 0), (5, .slice (some ⟨b7, 0, none⟩) ((List.replicate (w64 (p0_2 + 1)).toNat (0 : Int)).length) c8)] rfl ⟨rfl, rfl, rfl, rfl, trivial⟩ ?_
    refine WO_end ?_
    refine WK_seq ?_
    refine WK_seq ?_
    refine WK_region ?_
    refine WO_pure tbok 1 [(2, .slice none 0 0), (3, .int .i64 0), (5, .slice (some ⟨b7, 0, none⟩) ((List.replicate (w64 (p0_2 + 1)).toNat (0 : Int)).length) c8), (17, .pointer (some ⟨b2, 3, none⟩))] rfl ⟨rfl, rfl, rfl, rfl, trivial⟩ ?_
    refine WO_loadB tbok 0 rfl rfl rfl rfl (fun _ h => h) rfl rfl ?_
    refine WO_pure tbok 2 [(2, .slice none 0 0), (3, .int .i64 0), (5, .slice (some ⟨b7, 0, none⟩) ((List.replicate (w64 (p0_2 + 1)).toNat (0 : Int)).length) c8), (18, .slice a_p0_3 p0_3.length c_p0_3), (19, .int .i64 (p0_3.length : Int)), (20, .int .i64 0)] rfl ⟨rfl, rfl, rfl, rfl, rfl, rfl, trivial⟩ ?_
    refine WO_end ?_
    obtain ⟨x18, hx19, hm⟩ := bind_some hm
    refine WK_join (β := (List Int) × (List Ent)) (fun p => p.1 = x18 ∧ OwnE 3 1 (I1 .i64) (.slice (some ⟨b7, 0, none⟩) ((List.replicate (w64 (p0_2 + 1)).toNat (0 : Int)).length) c8) p.1 p.2) (fun p => [(2, .slice none 0 0), (3, .int .i64 0), (5, .slice (some ⟨b7, 0, none⟩) ((List.replicate (w64 (p0_2 + 1)).toNat (0 : Int)).length) c8)]) (fun p => St w0 m m [[⟨b2, 24, [.int .i64 p0_0, .int .i64 p0_1, .int .i64 p0_2, .slice a_p0_3 p0_3.length c_p0_3]⟩], p.2]) ?_ (fun hk20 => ?_)
    · rintro ⟨l15, L17⟩ ⟨hq26, hL17⟩
      subst hq26
      refine WK.sub (e' := [(2, .slice none 0 0), (3, .int .i64 0), (5, .slice (some ⟨b7, 0, none⟩) ((List.replicate (w64 (p0_2 + 1)).toNat (0 : Int)).length) c8)]) ⟨rfl, rfl, rfl, trivial⟩ (WK.cls (C' := St w0 m m [[⟨b2, 24, [.int .i64 p0_0, .int .i64 p0_1, .int .i64 p0_2, .slice a_p0_3 p0_3.length c_p0_3]⟩], L17]) (fun _ h => h) ?_)
      refine WK_seq ?_
      refine WK_region ?_
      refine WO_pure tbok 3 [(2, .slice (some ⟨b7, 0, none⟩) ((List.replicate (w64 (p0_2 + 1)).toNat (0 : Int)).length) c8), (3, .int .i64 0)] rfl ⟨rfl, rfl, trivial⟩ ?_
      refine WO_end ?_
      cases hm
      exact WK_ret (ret_out (L := L17) (RLc_tmp rfl (RLc_tmp rfl RLc_nil)) (seg_sub 1 rfl) ⟨(some ⟨b7, 0, none⟩), ((List.replicate (w64 (p0_2 + 1)).toNat (0 : Int)).length), c8, rfl, hL17⟩)
    · refine WK_block ?_
      refine WK_loop (S := List Int × Int) (G := List Ent) (fun s => raster_Histogram_s1 p0_3 s.1 s.2) (fun s g => [(2, .slice none 0 0), (3, .int .i64 0), (5, .slice (some ⟨b7, 0, none⟩) ((List.replicate (w64 (p0_2 + 1)).toNat (0 : Int)).length) c8), (18, .slice a_p0_3 p0_3.length c_p0_3), (19, .int .i64 (p0_3.length : Int)), (20, .int .i64 s.2)]) (fun s g => St w0 m m [[⟨b2, 24, [.int .i64 p0_0, .int .i64 p0_1, .int .i64 p0_2, .slice a_p0_3 p0_3.length c_p0_3]⟩], g]) (fun s g => OwnE 3 1 (I1 .i64) (.slice (some ⟨b7, 0, none⟩) ((List.replicate (w64 (p0_2 + 1)).toNat (0 : Int)).length) c8) s.1 g) FUEL ((List.replicate (w64 (p0_2 + 1)).toNat (0 : Int)), 0) L9 x18 hx19 hL9 ⟨rfl, rfl, rfl, rfl, rfl, rfl, trivial⟩ (fun _ h => h) ?_
      rintro ⟨l11, s14⟩ L13 o22 fl23 hm21 hL13 hn24 hd25
      have hm21 : raster_Histogram_s1 p0_3 l11 s14 = some o22 := hm21
      unfold raster_Histogram_s1 at hm21
      refine WK.sub (e' := [(2, .slice none 0 0), (3, .int .i64 0), (5, .slice (some ⟨b7, 0, none⟩) ((List.replicate (w64 (p0_2 + 1)).toNat (0 : Int)).length) c8), (18, .slice a_p0_3 p0_3.length c_p0_3), (19, .int .i64 (p0_3.length : Int)), (20, .int .i64 s14)]) ⟨rfl, rfl, rfl, rfl, rfl, rfl, trivial⟩ (WK.cls (C' := St w0 m m [[⟨b2, 24, [.int .i64 p0_0, .int .i64 p0_1, .int .i64 p0_2, .slice a_p0_3 p0_3.length c_p0_3]⟩], L13]) (fun _ h => h) ?_)
      refine WK_seq ?_
      refine WK_region ?_
      refine WO_pure tbok 1 [(2, .slice none 0 0), (3, .int .i64 0), (5, .slice (some ⟨b7, 0, none⟩) ((List.replicate (w64 (p0_2 + 1)).toNat (0 : Int)).length) c8), (18, .slice a_p0_3 p0_3.length c_p0_3), (19, .int .i64 (p0_3.length : Int)), (20, .int .i64 s14), (21, .bool (decide (s14 < (p0_3.length : Int))))] rfl ⟨rfl, rfl, rfl, rfl, rfl, rfl, rfl, trivial⟩ ?_
      refine WO_end ?_
      refine WK_seq ?_
      refine WK_cond (b := decide (s14 < (p0_3.length : Int))) rfl (fun hb27 => ?_) (fun hb27 => ?_)
      · have hm21 := ifT hb27 hm21
        refine WK_skip ?_
        refine WK_seq ?_
        refine WK_block ?_
        refine WK_seq ?_
        refine WK_region ?_
        obtain ⟨v28, hy29, hm21⟩ := bind_some hm21
        obtain ⟨hc30, hy29⟩ := ix_some hy29
        refine WO_index tbok rfl rfl rfl rfl rfl rfl rfl rfl (SlR.addr h_p0_3) hc30 ?_
        refine WO_loadE tbok rfl rfl rfl rfl (fun _ h => St.sat h) h_p0_3 hy29 rfl ?_
        refine WO_pure tbok 1 [(2, .slice none 0 0), (3, .int .i64 0), (5, .slice (some ⟨b7, 0, none⟩) ((List.replicate (w64 (p0_2 + 1)).toNat (0 : Int)).length) c8), (7, .int .i64 v28), (18, .slice a_p0_3 p0_3.length c_p0_3), (19, .int .i64 (p0_3.length : Int)), (20, .int .i64 s14)] rfl ⟨rfl, rfl, rfl, rfl, rfl, rfl, rfl, trivial⟩ ?_
        refine WO_end ?_
        refine WK_region ?_
        refine WO_pure tbok 2 [(2, .slice none 0 0), (3, .int .i64 0), (5, .slice (some ⟨b7, 0, none⟩) ((List.replicate (w64 (p0_2 + 1)).toNat (0 : Int)).length) c8), (18, .slice a_p0_3 p0_3.length c_p0_3), (19, .int .i64 (p0_3.length : Int)), (20, .int .i64 s14), (24, .slice (some ⟨b7, 0, none⟩) ((List.replicate (w64 (p0_2 + 1)).toNat (0 : Int)).length) c8), (25, .int .i64 v28)] rfl ⟨rfl, rfl, rfl, rfl, rfl, rfl, rfl, rfl, trivial⟩ ?_
        obtain ⟨v31, hy32, hm21⟩ := bind_some hm21
        obtain ⟨hc33, hy32⟩ := ix_some hy32
        refine WO_index tbok rfl rfl rfl rfl rfl rfl rfl rfl (OwnE.addr hL13) (by simpa using hc33) ?_
        refine WO_loadO (E := (I1 .i64)) tbok (fun _ => rfl) 1 rfl rfl rfl rfl (fun _ h => h) hL13 rfl hy32 rfl ?_
        refine WO_pure tbok 1 [(2, .slice none 0 0), (3, .int .i64 0), (5, .slice (some ⟨b7, 0, none⟩) ((List.replicate (w64 (p0_2 + 1)).toNat (0 : Int)).length) c8), (18, .slice a_p0_3 p0_3.length c_p0_3), (19, .int .i64 (p0_3.length : Int)), (20, .int .i64 s14), (24, .slice (some ⟨b7, 0, none⟩) ((List.replicate (w64 (p0_2 + 1)).toNat (0 : Int)).length) c8), (25, .int .i64 v28), (28, .int .i64 (w64 (v31 + 1)))] rfl ⟨rfl, rfl, rfl, rfl, rfl, rfl, rfl, rfl, rfl, trivial⟩ ?_
        obtain ⟨hc34, hm21⟩ := chk_some hm21
        refine WO_index tbok rfl rfl rfl rfl rfl rfl rfl rfl (OwnE.addr hL13) (by simpa using hc34) ?_
        refine WO_storeO (E := (I1 .i64)) tbok (fun _ => rfl) 1 (w64 (v31 + 1)) rfl rfl rfl rfl rfl hL13 rfl (by simpa using idx_lt hc34) rfl rfl rfl rfl (fun L35 hL35 => ?_)
        refine WO.cls (C' := St w0 m m [[⟨b2, 24, [.int .i64 p0_0, .int .i64 p0_1, .int .i64 p0_2, .slice a_p0_3 p0_3.length c_p0_3]⟩], L35]) (fun _ h => h) ?_
        refine WO_end ?_
        refine WK_blk ?_
        refine WK_region ?_
        refine WO_pure tbok 2 [(2, .slice none 0 0), (3, .int .i64 0), (5, .slice (some ⟨b7, 0, none⟩) ((List.replicate (w64 (p0_2 + 1)).toNat (0 : Int)).length) c8), (18, .slice a_p0_3 p0_3.length c_p0_3), (19, .int .i64 (p0_3.length : Int)), (20, .int .i64 (w64 (s14 + 1)))] rfl ⟨rfl, rfl, rfl, rfl, rfl, rfl, trivial⟩ ?_
        refine WO_end ?_
        cases hm21
        refine WK.sub ?_ (WK.cls (fun _ h => h) (hn24 _ L35 rfl hL35))
        exact ⟨rfl, rfl, rfl, rfl, rfl, rfl, trivial⟩
      · have hm21 := ifF hb27 hm21
        refine WK_exit rfl ?_
        cases hm21
        refine WK.sub ?_ (WK.cls (fun _ h => h) (hk20 (l11, L13) ⟨(hd25 _ rfl), hL13⟩))
        exact ⟨rfl, rfl, rfl, trivial⟩
theorem fiducialref13_Count_walk {m : Mu} {p0_0 : Int} {p0_1 : Int} {p0_2 : Int} {p0_3 : List Int} {p1 : Int} {a_p0_3 : Option Addr} {q_p0_3 c_p0_3 : Nat} (h_p0_3 : SlR (FE (I1 .i64)) 1 m (.slice a_p0_3 q_p0_3 c_p0_3) p0_3) {r : Int} (hm : fiducialref13_Count p0_0 p0_1 p0_2 p0_3 p1 = some r) :
    Go.E.Spec Try.prog 26 [.agg #[.int .i64 p0_0, .int .i64 p0_1, .int .i64 p0_2, .slice a_p0_3 q_p0_3 c_p0_3], .int .i64 p1] m (fun v _ _ => v = .int .i64 r) := by
  refine Spec_enter Try.func26 rfl rfl rfl (fun w0 => ?_)
  refine WK.sub (e' := [(0, .agg #[.int .i64 p0_0, .int .i64 p0_1, .int .i64 p0_2, .slice a_p0_3 q_p0_3 c_p0_3]), (1, .int .i64 p1)]) ⟨rfl, rfl, trivial⟩ ?_
  obtain rfl := SlR.qlen h_p0_3
  refine WK.sub (e' := [(0, .agg #[.int .i64 p0_0, .int .i64 p0_1, .int .i64 p0_2, .slice a_p0_3 p0_3.length c_p0_3]), (1, .int .i64 p1)]) ⟨rfl, rfl, trivial⟩ ?_
  unfold fiducialref13_Count at hm
  refine WK_seq ?_
  refine WK_region ?_
  refine WO_box [.int .i64 p0_0, .int .i64 p0_1, .int .i64 p0_2, .slice a_p0_3 p0_3.length c_p0_3] rfl rfl trivial rfl rfl rfl (fun b2 => ?_)
  refine WO.cls (C' := St w0 m m [[⟨b2, 24, [.int .i64 p0_0, .int .i64 p0_1, .int .i64 p0_2, .slice a_p0_3 p0_3.length c_p0_3]⟩]]) (fun _ h => h) ?_
  refine WO_pure tbok 1 [(1, .int .i64 p1), (2, .pointer (some ⟨b2, 0, none⟩)), (4, .int .i64 0)] rfl ⟨rfl, rfl, rfl, trivial⟩ ?_
  refine WO_end ?_
  refine WK_seq ?_
  refine WK_region ?_
  refine WO_pure tbok 1 [(1, .int .i64 p1), (2, .pointer (some ⟨b2, 0, none⟩)), (4, .int .i64 0), (5, .int .i64 0)] rfl ⟨rfl, rfl, rfl, rfl, trivial⟩ ?_
  refine WO_end ?_
  refine WK_seq ?_
  refine WK_seq ?_
  refine WK_region ?_
  refine WO_pure tbok 1 [(1, .int .i64 p1), (2, .pointer (some ⟨b2, 0, none⟩)), (4, .int .i64 0), (5, .int .i64 0), (6, .int .i64 0)] rfl ⟨rfl, rfl, rfl, rfl, rfl, trivial⟩ ?_
  refine WO_end ?_
  obtain ⟨x6, hx7, hm⟩ := bind_some hm
  refine WK_join (β := Int × Unit) (fun p => p.1 = x6) (fun p => [(4, .int .i64 0), (5, .int .i64 p.1)]) (fun p => St w0 m m [[⟨b2, 24, [.int .i64 p0_0, .int .i64 p0_1, .int .i64 p0_2, .slice a_p0_3 p0_3.length c_p0_3]⟩]]) ?_ (fun hk8 => ?_)
  · rintro ⟨s5, ⟨⟩⟩ hq14
    subst hq14
    refine WK.sub (e' := [(4, .int .i64 0), (5, .int .i64 s5)]) ⟨rfl, rfl, trivial⟩ (WK.cls (C' := St w0 m m [[⟨b2, 24, [.int .i64 p0_0, .int .i64 p0_1, .int .i64 p0_2, .slice a_p0_3 p0_3.length c_p0_3]⟩]]) (fun _ h => h) ?_)
    refine WK_seq ?_
    refine WK_region ?_
    refine WO_pure tbok 2 [(4, .int .i64 s5)] rfl ⟨rfl, trivial⟩ ?_
    refine WO_end ?_
    cases hm
    exact WK_ret (ret_out (L := []) (RLc_tmp rfl RLc_nil) (List.nil_sublist _) rfl)
  · refine WK_block ?_
    refine WK_loop (S := Int × Int) (G := Unit) (fun s => fiducialref13_Count_s1 p0_3 p1 s.1 s.2) (fun s g => [(1, .int .i64 p1), (2, .pointer (some ⟨b2, 0, none⟩)), (4, .int .i64 0), (5, .int .i64 s.1), (6, .int .i64 s.2)]) (fun s g => St w0 m m [[⟨b2, 24, [.int .i64 p0_0, .int .i64 p0_1, .int .i64 p0_2, .slice a_p0_3 p0_3.length c_p0_3]⟩]]) (fun s g => True) FUEL (0, 0) () x6 hx7 trivial ⟨rfl, rfl, rfl, rfl, rfl, trivial⟩ (fun _ h => h) ?_
    rintro ⟨s3, s4⟩ ⟨⟩ o10 fl11 hm9 - hn12 hd13
    have hm9 : fiducialref13_Count_s1 p0_3 p1 s3 s4 = some o10 := hm9
    unfold fiducialref13_Count_s1 at hm9
    refine WK.sub (e' := [(1, .int .i64 p1), (2, .pointer (some ⟨b2, 0, none⟩)), (4, .int .i64 0), (5, .int .i64 s3), (6, .int .i64 s4)]) ⟨rfl, rfl, rfl, rfl, rfl, trivial⟩ (WK.cls (C' := St w0 m m [[⟨b2, 24, [.int .i64 p0_0, .int .i64 p0_1, .int .i64 p0_2, .slice a_p0_3 p0_3.length c_p0_3]⟩]]) (fun _ h => h) ?_)
    refine WK_seq ?_
    refine WK_seq ?_
    refine WK_region ?_
    refine WO_pure tbok 2 [(1, .int .i64 p1), (2, .pointer (some ⟨b2, 0, none⟩)), (4, .int .i64 0), (5, .int .i64 s3), (6, .int .i64 s4), (7, .int .i64 s4), (8, .pointer (some ⟨b2, 3, none⟩))] rfl ⟨rfl, rfl, rfl, rfl, rfl, rfl, rfl, trivial⟩ ?_
    refine WO_loadB tbok 0 rfl rfl rfl rfl (fun _ h => h) rfl rfl ?_
    refine WO_pure tbok 2 [(1, .int .i64 p1), (2, .pointer (some ⟨b2, 0, none⟩)), (4, .int .i64 0), (5, .int .i64 s3), (6, .int .i64 s4), (11, .bool (decide (s4 < (p0_3.length : Int))))] rfl ⟨rfl, rfl, rfl, rfl, rfl, rfl, trivial⟩ ?_
    refine WO_end ?_
    refine WK_cond (b := decide (s4 < (p0_3.length : Int))) rfl (fun hb15 => ?_) (fun hb15 => ?_)
    · have hm9 := ifT hb15 hm9
      refine WK_skip ?_
      refine WK_seq ?_
      refine WK_block ?_
      refine WK_seq ?_
      refine WK_region ?_
      refine WO_pure tbok 1 [(1, .int .i64 p1), (2, .pointer (some ⟨b2, 0, none⟩)), (4, .int .i64 0), (5, .int .i64 s3), (6, .int .i64 s4), (14, .pointer (some ⟨b2, 3, none⟩))] rfl ⟨rfl, rfl, rfl, rfl, rfl, rfl, trivial⟩ ?_
      refine WO_loadB tbok 0 rfl rfl rfl rfl (fun _ h => h) rfl rfl ?_
      refine WO_pure tbok 1 [(1, .int .i64 p1), (2, .pointer (some ⟨b2, 0, none⟩)), (4, .int .i64 0), (5, .int .i64 s3), (6, .int .i64 s4), (15, .slice a_p0_3 p0_3.length c_p0_3), (16, .int .i64 s4)] rfl ⟨rfl, rfl, rfl, rfl, rfl, rfl, rfl, trivial⟩ ?_
      obtain ⟨v16, hy17, hm9⟩ := bind_some hm9
      obtain ⟨hc18, hy17⟩ := ix_some hy17
      refine WO_index tbok rfl rfl rfl rfl rfl rfl rfl rfl (SlR.addr h_p0_3) hc18 ?_
      refine WO_loadE tbok rfl rfl rfl rfl (fun _ h => St.sat h) h_p0_3 hy17 rfl ?_
      refine WO_pure tbok 2 [(1, .int .i64 p1), (2, .pointer (some ⟨b2, 0, none⟩)), (4, .int .i64 0), (5, .int .i64 s3), (6, .int .i64 s4), (20, .bool (v16 == p1))] rfl ⟨rfl, rfl, rfl, rfl, rfl, rfl, trivial⟩ ?_
      refine WO_end ?_
      obtain ⟨s19, hx20, hm9⟩ := bind_some hm9
      refine WK_meet [(1, .int .i64 p1), (2, .pointer (some ⟨b2, 0, none⟩)), (4, .int .i64 0), (5, .int .i64 s19), (6, .int .i64 s4)] (St w0 m m [[⟨b2, 24, [.int .i64 p0_0, .int .i64 p0_1, .int .i64 p0_2, .slice a_p0_3 p0_3.length c_p0_3]⟩]]) ?_ (fun hk21 => ?_)
      · refine WK_blk ?_
        refine WK_region ?_
        refine WO_pure tbok 3 [(1, .int .i64 p1), (2, .pointer (some ⟨b2, 0, none⟩)), (4, .int .i64 0), (5, .int .i64 s19), (6, .int .i64 (w64 (s4 + 1)))] rfl ⟨rfl, rfl, rfl, rfl, rfl, trivial⟩ ?_
        refine WO_end ?_
        cases hm9
        refine WK.sub ?_ (WK.cls (fun _ h => h) (hn12 _ () rfl trivial))
        exact ⟨rfl, rfl, rfl, rfl, rfl, trivial⟩
      · refine WK_cond (b := v16 == p1) rfl (fun hb22 => ?_) (fun hb22 => ?_)
        · have hx20 := ifT hb22 hx20
          refine WK_region ?_
          refine WO_pure tbok 3 [(1, .int .i64 p1), (2, .pointer (some ⟨b2, 0, none⟩)), (4, .int .i64 0), (5, .int .i64 (w64 (s3 + 1))), (6, .int .i64 s4)] rfl ⟨rfl, rfl, rfl, rfl, rfl, trivial⟩ ?_
          refine WO_end ?_
          cases hx20
          refine WK.sub ?_ (WK.cls (fun _ h => h) hk21)
          exact ⟨rfl, rfl, rfl, rfl, rfl, trivial⟩
        · have hx20 := ifF hb22 hx20
          refine WK_skip ?_
          cases hx20
          refine WK.sub ?_ (WK.cls (fun _ h => h) hk21)
          exact ⟨rfl, rfl, rfl, rfl, rfl, trivial⟩
    · have hm9 := ifF hb15 hm9
      refine WK_exit rfl ?_
      cases hm9
      refine WK.sub ?_ (WK.cls (fun _ h => h) (hk8 (s3, ()) (hd13 _ rfl)))
      exact ⟨rfl, rfl, trivial⟩
end Go.Proofs.Ytoflllddpoonbaa
