import Derived.Test.YtoflllddpoonbaaTab
import Derived.Test.YtoflllddpoonbaaM
import Derived.Test.YtoflllddpoonbaaW4
set_option linter.unusedVariables false
set_option maxRecDepth 100000
set_option maxHeartbeats 4000000
namespace Go.Proofs.Ytoflllddpoonbaa
open Go.E Go.RowKit
attribute [local irreducible] Go.E.WO Go.E.WK
def fiducialref13_Paste_Q (r : Int × Int × Int × List Int) : Value → List Ent → Prop := fun v L => ∃ (a0 : Option Addr) (q0 c0 : Nat), v = .agg #[.int .i64 r.1, .int .i64 r.2.1, .int .i64 r.2.2.1, .slice a0 q0 c0] ∧ OwnE 3 1 (I1 .i64) (.slice a0 q0 c0) r.2.2.2 L
theorem fiducialref13_Paste_walk {m : Mu} {p0_0 : Int} {p0_1 : Int} {p0_2 : Int} {p0_3 : List Int} {p1_0 : Int} {p1_1 : Int} {p1_2 : Int} {p1_3 : List Int} {p2 : Int} {p3 : Int} {a_p0_3 : Option Addr} {q_p0_3 c_p0_3 : Nat} {a_p1_3 : Option Addr} {q_p1_3 c_p1_3 : Nat} (h_p0_3 : SlR (FE (I1 .i64)) 1 m (.slice a_p0_3 q_p0_3 c_p0_3) p0_3) (h_p1_3 : SlR (FE (I1 .i64)) 1 m (.slice a_p1_3 q_p1_3 c_p1_3) p1_3) {r : Int × Int × Int × List Int} (hm : fiducialref13_Paste p0_0 p0_1 p0_2 p0_3 p1_0 p1_1 p1_2 p1_3 p2 p3 = some r) :
    Go.E.Spec Try.prog 38 [.agg #[.int .i64 p0_0, .int .i64 p0_1, .int .i64 p0_2, .slice a_p0_3 q_p0_3 c_p0_3], .agg #[.int .i64 p1_0, .int .i64 p1_1, .int .i64 p1_2, .slice a_p1_3 q_p1_3 c_p1_3], .int .i64 p2, .int .i64 p3] m (fun v _ L => fiducialref13_Paste_Q r v L) := by
  refine Spec_enter Try.func38 rfl rfl rfl (fun w0 => ?_)
  refine WK.sub (e' := [(0, .agg #[.int .i64 p0_0, .int .i64 p0_1, .int .i64 p0_2, .slice a_p0_3 q_p0_3 c_p0_3]), (1, .agg #[.int .i64 p1_0, .int .i64 p1_1, .int .i64 p1_2, .slice a_p1_3 q_p1_3 c_p1_3]), (2, .int .i64 p2), (3, .int .i64 p3)]) ⟨rfl, rfl, rfl, rfl, trivial⟩ ?_
  obtain rfl := SlR.qlen h_p0_3
  obtain rfl := SlR.qlen h_p1_3
  refine WK.sub (e' := [(0, .agg #[.int .i64 p0_0, .int .i64 p0_1, .int .i64 p0_2, .slice a_p0_3 p0_3.length c_p0_3]), (1, .agg #[.int .i64 p1_0, .int .i64 p1_1, .int .i64 p1_2, .slice a_p1_3 p1_3.length c_p1_3]), (2, .int .i64 p2), (3, .int .i64 p3)]) ⟨rfl, rfl, rfl, rfl, trivial⟩ ?_
  unfold fiducialref13_Paste at hm
  refine WK_seq ?_
  refine WK_region ?_
  refine WO_box [.int .i64 p0_0, .int .i64 p0_1, .int .i64 p0_2, .slice a_p0_3 p0_3.length c_p0_3] rfl rfl trivial rfl rfl rfl (fun b3 => ?_)
  refine WO.cls (C' := St w0 m m [[⟨b3, 24, [.int .i64 p0_0, .int .i64 p0_1, .int .i64 p0_2, .slice a_p0_3 p0_3.length c_p0_3]⟩]]) (fun _ h => h) ?_
  refine WO_box [.int .i64 p1_0, .int .i64 p1_1, .int .i64 p1_2, .slice a_p1_3 p1_3.length c_p1_3] rfl rfl trivial rfl rfl rfl (fun b4 => ?_)
  refine WO.cls (C' := St w0 m m [[⟨b3, 24, [.int .i64 p0_0, .int .i64 p0_1, .int .i64 p0_2, .slice a_p0_3 p0_3.length c_p0_3]⟩], [⟨b4, 24, [.int .i64 p1_0, .int .i64 p1_1, .int .i64 p1_2, .slice a_p1_3 p1_3.length c_p1_3]⟩]]) (fun _ h => h) ?_
  refine WO_alloc tbok [.int .i64 0, .int .i64 0, .int .i64 0, .slice none 0 0] rfl rfl trivial rfl rfl rfl rfl (fun b5 => ?_)
  refine WO.cls (C' := St w0 m m [[⟨b3, 24, [.int .i64 p0_0, .int .i64 p0_1, .int .i64 p0_2, .slice a_p0_3 p0_3.length c_p0_3]⟩], [⟨b4, 24, [.int .i64 p1_0, .int .i64 p1_1, .int .i64 p1_2, .slice a_p1_3 p1_3.length c_p1_3]⟩], [⟨b5, 24, [.int .i64 0, .int .i64 0, .int .i64 0, .slice none 0 0]⟩]]) (fun _ h => h) ?_
  refine WO_end ?_
  refine WK_seq ?_
  refine WK_region ?_
  refine WO_loadB tbok 0 rfl rfl rfl rfl (fun _ h => h) rfl rfl ?_
  obtain ⟨⟨y6, y7, y8, y9⟩, hc10, hm⟩ := bind_some hm
  refine WO_call1 (fiducialref13_Copy_Q (y6, y7, y8, y9)) rfl rfl trivial rfl rfl rfl rfl ⟨22, #[], #[], rfl, callable_22, fun w hw => ⟨_, hw.sat, fiducialref13_Copy_walk h_p0_3 hc10⟩⟩ (fun v15 L14 hq => ?_)
  obtain ⟨a11, qa11, c12, rfl, hL14⟩ := hq
  obtain rfl := OwnE.qlen hL14
  refine WO.cls (C' := St w0 m m [[⟨b3, 24, [.int .i64 p0_0, .int .i64 p0_1, .int .i64 p0_2, .slice a_p0_3 p0_3.length c_p0_3]⟩], [⟨b4, 24, [.int .i64 p1_0, .int .i64 p1_1, .int .i64 p1_2, .slice a_p1_3 p1_3.length c_p1_3]⟩], [⟨b5, 24, [.int .i64 0, .int .i64 0, .int .i64 0, .slice none 0 0]⟩], L14]) (fun _ h => h) ?_
  refine WO_alloc tbok [.int .i64 0, .int .i64 0, .int .i64 0, .slice none 0 0] rfl rfl trivial rfl rfl rfl rfl (fun b16 => ?_)
  refine WO.cls (C' := St w0 m m [[⟨b3, 24, [.int .i64 p0_0, .int .i64 p0_1, .int .i64 p0_2, .slice a_p0_3 p0_3.length c_p0_3]⟩], [⟨b4, 24, [.int .i64 p1_0, .int .i64 p1_1, .int .i64 p1_2, .slice a_p1_3 p1_3.length c_p1_3]⟩], [⟨b5, 24, [.int .i64 0, .int .i64 0, .int .i64 0, .slice none 0 0]⟩], L14, [⟨b16, 24, [.int .i64 0, .int .i64 0, .int .i64 0, .slice none 0 0]⟩]]) (fun _ h => h) ?_
  refine WO_storeB tbok 4 [.int .i64 y6, .int .i64 y7, .int .i64 y8, .slice a11 ((y9).length) c12] rfl rfl rfl rfl rfl rfl rfl ?_
  refine WO.cls (C' := St w0 m m [[⟨b3, 24, [.int .i64 p0_0, .int .i64 p0_1, .int .i64 p0_2, .slice a_p0_3 p0_3.length c_p0_3]⟩], [⟨b4, 24, [.int .i64 p1_0, .int .i64 p1_1, .int .i64 p1_2, .slice a_p1_3 p1_3.length c_p1_3]⟩], [⟨b5, 24, [.int .i64 0, .int .i64 0, .int .i64 0, .slice none 0 0]⟩], L14, [⟨b16, 24, [.int .i64 y6, .int .i64 y7, .int .i64 y8, .slice a11 ((y9).length) c12]⟩]]) (fun _ h => h) ?_
  refine WO_end ?_
  refine WK_seq ?_
  refine WK_seq ?_
  refine WK_region ?_
  refine WO_pure tbok 1 [(2, .int .i64 p2), (3, .int .i64 p3), (4, .pointer (some ⟨b3, 0, none⟩)), (5, .pointer (some ⟨b4, 0, none⟩)), (8, .pointer (some ⟨b5, 0, none⟩)), (9, .pointer (some ⟨b16, 0, none⟩)), (10, .int .i64 0)] rfl ⟨rfl, rfl, rfl, rfl, rfl, rfl, rfl, trivial⟩ ?_
  refine WO_end ?_
  obtain ⟨x24, hx25, hm⟩ := bind_some hm
  refine WK_join (β := (List Int) × (List Ent)) (fun p => p.1 = x24 ∧ OwnE 3 1 (I1 .i64) (.slice a11 ((y9).length) c12) p.1 p.2) (fun p => [(8, .pointer (some ⟨b5, 0, none⟩)), (9, .pointer (some ⟨b16, 0, none⟩))]) (fun p => St w0 m m [[⟨b3, 24, [.int .i64 p0_0, .int .i64 p0_1, .int .i64 p0_2, .slice a_p0_3 p0_3.length c_p0_3]⟩], [⟨b4, 24, [.int .i64 p1_0, .int .i64 p1_1, .int .i64 p1_2, .slice a_p1_3 p1_3.length c_p1_3]⟩], [⟨b5, 24, [.int .i64 0, .int .i64 0, .int .i64 0, .slice none 0 0]⟩], p.2, [⟨b16, 24, [.int .i64 y6, .int .i64 y7, .int .i64 y8, .slice a11 ((y9).length) c12]⟩]]) ?_ (fun hk26 => ?_)
  · rintro ⟨l21, L23⟩ ⟨hq32, hL23⟩
    subst hq32
    refine WK.sub (e' := [(8, .pointer (some ⟨b5, 0, none⟩)), (9, .pointer (some ⟨b16, 0, none⟩))]) ⟨rfl, rfl, trivial⟩ (WK.cls (C' := St w0 m m [[⟨b3, 24, [.int .i64 p0_0, .int .i64 p0_1, .int .i64 p0_2, .slice a_p0_3 p0_3.length c_p0_3]⟩], [⟨b4, 24, [.int .i64 p1_0, .int .i64 p1_1, .int .i64 p1_2, .slice a_p1_3 p1_3.length c_p1_3]⟩], [⟨b5, 24, [.int .i64 0, .int .i64 0, .int .i64 0, .slice none 0 0]⟩], L23, [⟨b16, 24, [.int .i64 y6, .int .i64 y7, .int .i64 y8, .slice a11 ((y9).length) c12]⟩]]) (fun _ h => h) ?_)
    refine WK_seq ?_
    refine WK_region ?_
    refine WO_loadB tbok 4 rfl rfl rfl rfl (fun _ h => h) rfl rfl ?_
    refine WO_storeB tbok 2 [.int .i64 y6, .int .i64 y7, .int .i64 y8, .slice a11 ((y9).length) c12] rfl rfl rfl rfl rfl rfl rfl ?_
    refine WO.cls (C' := St w0 m m [[⟨b3, 24, [.int .i64 p0_0, .int .i64 p0_1, .int .i64 p0_2, .slice a_p0_3 p0_3.length c_p0_3]⟩], [⟨b4, 24, [.int .i64 p1_0, .int .i64 p1_1, .int .i64 p1_2, .slice a_p1_3 p1_3.length c_p1_3]⟩], [⟨b5, 24, [.int .i64 y6, .int .i64 y7, .int .i64 y8, .slice a11 ((y9).length) c12]⟩], L23, [⟨b16, 24, [.int .i64 y6, .int .i64 y7, .int .i64 y8, .slice a11 ((y9).length) c12]⟩]]) (fun _ h => h) ?_
    refine WO_end ?_
    cases hm
    exact WK_ret (ret_out (L := L23) (RLc_cell tbok 2 rfl rfl rfl RLc_nil) (seg_sub 3 rfl) ⟨a11, ((y9).length), c12, rfl, hL23⟩)
  · refine WK_block ?_
    refine WK_loop (S := List Int × Int) (G := List Ent) (fun s => fiducialref13_Paste_s1 p0_0 p0_1 p0_2 p0_3 p1_0 p1_1 p1_2 p1_3 p2 p3 s.1 s.2) (fun s g => [(2, .int .i64 p2), (3, .int .i64 p3), (4, .pointer (some ⟨b3, 0, none⟩)), (5, .pointer (some ⟨b4, 0, none⟩)), (8, .pointer (some ⟨b5, 0, none⟩)), (9, .pointer (some ⟨b16, 0, none⟩)), (10, .int .i64 s.2)]) (fun s g => St w0 m m [[⟨b3, 24, [.int .i64 p0_0, .int .i64 p0_1, .int .i64 p0_2, .slice a_p0_3 p0_3.length c_p0_3]⟩], [⟨b4, 24, [.int .i64 p1_0, .int .i64 p1_1, .int .i64 p1_2, .slice a_p1_3 p1_3.length c_p1_3]⟩], [⟨b5, 24, [.int .i64 0, .int .i64 0, .int .i64 0, .slice none 0 0]⟩], g, [⟨b16, 24, [.int .i64 y6, .int .i64 y7, .int .i64 y8, .slice a11 ((y9).length) c12]⟩]]) (fun s g => OwnE 3 1 (I1 .i64) (.slice a11 ((y9).length) c12) s.1 g) FUEL (y9, 0) L14 x24 hx25 hL14 ⟨rfl, rfl, rfl, rfl, rfl, rfl, rfl, trivial⟩ (fun _ h => h) ?_
    rintro ⟨l17, s20⟩ L19 o28 fl29 hm27 hL19 hn30 hd31
    have hm27 : fiducialref13_Paste_s1 p0_0 p0_1 p0_2 p0_3 p1_0 p1_1 p1_2 p1_3 p2 p3 l17 s20 = some o28 := hm27
    unfold fiducialref13_Paste_s1 at hm27
    refine WK.sub (e' := [(2, .int .i64 p2), (3, .int .i64 p3), (4, .pointer (some ⟨b3, 0, none⟩)), (5, .pointer (some ⟨b4, 0, none⟩)), (8, .pointer (some ⟨b5, 0, none⟩)), (9, .pointer (some ⟨b16, 0, none⟩)), (10, .int .i64 s20)]) ⟨rfl, rfl, rfl, rfl, rfl, rfl, rfl, trivial⟩ (WK.cls (C' := St w0 m m [[⟨b3, 24, [.int .i64 p0_0, .int .i64 p0_1, .int .i64 p0_2, .slice a_p0_3 p0_3.length c_p0_3]⟩], [⟨b4, 24, [.int .i64 p1_0, .int .i64 p1_1, .int .i64 p1_2, .slice a_p1_3 p1_3.length c_p1_3]⟩], [⟨b5, 24, [.int .i64 0, .int .i64 0, .int .i64 0, .slice none 0 0]⟩], L19, [⟨b16, 24, [.int .i64 y6, .int .i64 y7, .int .i64 y8, .slice a11 ((y9).length) c12]⟩]]) (fun _ h => h) ?_)
    refine WK_seq ?_
    refine WK_seq ?_
    refine WK_region ?_
    refine WO_pure tbok 2 [(2, .int .i64 p2), (3, .int .i64 p3), (4, .pointer (some ⟨b3, 0, none⟩)), (5, .pointer (some ⟨b4, 0, none⟩)), (8, .pointer (some ⟨b5, 0, none⟩)), (9, .pointer (some ⟨b16, 0, none⟩)), (10, .int .i64 s20), (14, .int .i64 s20), (15, .pointer (some ⟨b4, 1, none⟩))] rfl ⟨rfl, rfl, rfl, rfl, rfl, rfl, rfl, rfl, rfl, trivial⟩ ?_
    refine WO_loadB tbok 1 rfl rfl rfl rfl (fun _ h => h) rfl rfl ?_
    refine WO_pure tbok 1 [(2, .int .i64 p2), (3, .int .i64 p3), (4, .pointer (some ⟨b3, 0, none⟩)), (5, .pointer (some ⟨b4, 0, none⟩)), (8, .pointer (some ⟨b5, 0, none⟩)), (9, .pointer (some ⟨b16, 0, none⟩)), (10, .int .i64 s20), (17, .bool (decide (s20 < p1_1)))] rfl ⟨rfl, rfl, rfl, rfl, rfl, rfl, rfl, rfl, trivial⟩ ?_
    refine WO_end ?_
    refine WK_cond (b := decide (s20 < p1_1)) rfl (fun hb33 => ?_) (fun hb33 => ?_)
    · have hm27 := ifT hb33 hm27
      refine WK_skip ?_
      refine WK_seq ?_
      refine WK_block ?_
      refine WK_seq ?_
      refine WK_region ?_
      refine WO_pure tbok 1 [(2, .int .i64 p2), (3, .int .i64 p3), (4, .pointer (some ⟨b3, 0, none⟩)), (5, .pointer (some ⟨b4, 0, none⟩)), (8, .pointer (some ⟨b5, 0, none⟩)), (9, .pointer (some ⟨b16, 0, none⟩)), (10, .int .i64 s20), (11, .int .i64 0)] rfl ⟨rfl, rfl, rfl, rfl, rfl, rfl, rfl, rfl, trivial⟩ ?_
      refine WO_end ?_
      obtain ⟨x41, hx42, hm27⟩ := bind_some hm27
      refine WK_join (β := (List Int) × (List Ent)) (fun p => p.1 = x41 ∧ OwnE 3 1 (I1 .i64) (.slice a11 ((y9).length) c12) p.1 p.2) (fun p => [(2, .int .i64 p2), (3, .int .i64 p3), (4, .pointer (some ⟨b3, 0, none⟩)), (5, .pointer (some ⟨b4, 0, none⟩)), (8, .pointer (some ⟨b5, 0, none⟩)), (9, .pointer (some ⟨b16, 0, none⟩)), (10, .int .i64 s20)]) (fun p => St w0 m m [[⟨b3, 24, [.int .i64 p0_0, .int .i64 p0_1, .int .i64 p0_2, .slice a_p0_3 p0_3.length c_p0_3]⟩], [⟨b4, 24, [.int .i64 p1_0, .int .i64 p1_1, .int .i64 p1_2, .slice a_p1_3 p1_3.length c_p1_3]⟩], [⟨b5, 24, [.int .i64 0, .int .i64 0, .int .i64 0, .slice none 0 0]⟩], p.2, [⟨b16, 24, [.int .i64 y6, .int .i64 y7, .int .i64 y8, .slice a11 ((y9).length) c12]⟩]]) ?_ (fun hk43 => ?_)
      · rintro ⟨l38, L40⟩ ⟨hq49, hL40⟩
        subst hq49
        refine WK.sub (e' := [(2, .int .i64 p2), (3, .int .i64 p3), (4, .pointer (some ⟨b3, 0, none⟩)), (5, .pointer (some ⟨b4, 0, none⟩)), (8, .pointer (some ⟨b5, 0, none⟩)), (9, .pointer (some ⟨b16, 0, none⟩)), (10, .int .i64 s20)]) ⟨rfl, rfl, rfl, rfl, rfl, rfl, rfl, trivial⟩ (WK.cls (C' := St w0 m m [[⟨b3, 24, [.int .i64 p0_0, .int .i64 p0_1, .int .i64 p0_2, .slice a_p0_3 p0_3.length c_p0_3]⟩], [⟨b4, 24, [.int .i64 p1_0, .int .i64 p1_1, .int .i64 p1_2, .slice a_p1_3 p1_3.length c_p1_3]⟩], [⟨b5, 24, [.int .i64 0, .int .i64 0, .int .i64 0, .slice none 0 0]⟩], L40, [⟨b16, 24, [.int .i64 y6, .int .i64 y7, .int .i64 y8, .slice a11 ((y9).length) c12]⟩]]) (fun _ h => h) ?_)
        refine WK_blk ?_
        refine WK_region ?_
        refine WO_pure tbok 3 [(2, .int .i64 p2), (3, .int .i64 p3), (4, .pointer (some ⟨b3, 0, none⟩)), (5, .pointer (some ⟨b4, 0, none⟩)), (8, .pointer (some ⟨b5, 0, none⟩)), (9, .pointer (some ⟨b16, 0, none⟩)), (10, .int .i64 (w64 (s20 + 1)))] rfl ⟨rfl, rfl, rfl, rfl, rfl, rfl, rfl, trivial⟩ ?_
        refine WO_end ?_
        cases hm27
        refine WK.sub ?_ (WK.cls (fun _ h => h) (hn30 _ L40 rfl hL40))
        exact ⟨rfl, rfl, rfl, rfl, rfl, rfl, rfl, trivial⟩
      · refine WK_block ?_
        refine WK_loop (S := List Int × Int) (G := List Ent) (fun s => fiducialref13_Paste_s2 p0_0 p0_1 p0_2 p0_3 p1_0 p1_1 p1_2 p1_3 p2 p3 s20 s.1 s.2) (fun s g => [(2, .int .i64 p2), (3, .int .i64 p3), (4, .pointer (some ⟨b3, 0, none⟩)), (5, .pointer (some ⟨b4, 0, none⟩)), (8, .pointer (some ⟨b5, 0, none⟩)), (9, .pointer (some ⟨b16, 0, none⟩)), (10, .int .i64 s20), (11, .int .i64 s.2)]) (fun s g => St w0 m m [[⟨b3, 24, [.int .i64 p0_0, .int .i64 p0_1, .int .i64 p0_2, .slice a_p0_3 p0_3.length c_p0_3]⟩], [⟨b4, 24, [.int .i64 p1_0, .int .i64 p1_1, .int .i64 p1_2, .slice a_p1_3 p1_3.length c_p1_3]⟩], [⟨b5, 24, [.int .i64 0, .int .i64 0, .int .i64 0, .slice none 0 0]⟩], g, [⟨b16, 24, [.int .i64 y6, .int .i64 y7, .int .i64 y8, .slice a11 ((y9).length) c12]⟩]]) (fun s g => OwnE 3 1 (I1 .i64) (.slice a11 ((y9).length) c12) s.1 g) FUEL (l17, 0) L19 x41 hx42 hL19 ⟨rfl, rfl, rfl, rfl, rfl, rfl, rfl, rfl, trivial⟩ (fun _ h => h) ?_
        rintro ⟨l34, s37⟩ L36 o45 fl46 hm44 hL36 hn47 hd48
        have hm44 : fiducialref13_Paste_s2 p0_0 p0_1 p0_2 p0_3 p1_0 p1_1 p1_2 p1_3 p2 p3 s20 l34 s37 = some o45 := hm44
        unfold fiducialref13_Paste_s2 at hm44
        refine WK.sub (e' := [(2, .int .i64 p2), (3, .int .i64 p3), (4, .pointer (some ⟨b3, 0, none⟩)), (5, .pointer (some ⟨b4, 0, none⟩)), (8, .pointer (some ⟨b5, 0, none⟩)), (9, .pointer (some ⟨b16, 0, none⟩)), (10, .int .i64 s20), (11, .int .i64 s37)]) ⟨rfl, rfl, rfl, rfl, rfl, rfl, rfl, rfl, trivial⟩ (WK.cls (C' := St w0 m m [[⟨b3, 24, [.int .i64 p0_0, .int .i64 p0_1, .int .i64 p0_2, .slice a_p0_3 p0_3.length c_p0_3]⟩], [⟨b4, 24, [.int .i64 p1_0, .int .i64 p1_1, .int .i64 p1_2, .slice a_p1_3 p1_3.length c_p1_3]⟩], [⟨b5, 24, [.int .i64 0, .int .i64 0, .int .i64 0, .slice none 0 0]⟩], L36, [⟨b16, 24, [.int .i64 y6, .int .i64 y7, .int .i64 y8, .slice a11 ((y9).length) c12]⟩]]) (fun _ h => h) ?_)
        refine WK_seq ?_
        refine WK_seq ?_
        refine WK_region ?_
        refine WO_pure tbok 2 [(2, .int .i64 p2), (3, .int .i64 p3), (4, .pointer (some ⟨b3, 0, none⟩)), (5, .pointer (some ⟨b4, 0, none⟩)), (8, .pointer (some ⟨b5, 0, none⟩)), (9, .pointer (some ⟨b16, 0, none⟩)), (10, .int .i64 s20), (11, .int .i64 s37), (20, .int .i64 s37), (21, .pointer (some ⟨b4, 0, none⟩))] rfl ⟨rfl, rfl, rfl, rfl, rfl, rfl, rfl, rfl, rfl, rfl, trivial⟩ ?_
        refine WO_loadB tbok 1 rfl rfl rfl rfl (fun _ h => h) rfl rfl ?_
        refine WO_pure tbok 1 [(2, .int .i64 p2), (3, .int .i64 p3), (4, .pointer (some ⟨b3, 0, none⟩)), (5, .pointer (some ⟨b4, 0, none⟩)), (8, .pointer (some ⟨b5, 0, none⟩)), (9, .pointer (some ⟨b16, 0, none⟩)), (10, .int .i64 s20), (11, .int .i64 s37), (23, .bool (decide (s37 < p1_0)))] rfl ⟨rfl, rfl, rfl, rfl, rfl, rfl, rfl, rfl, rfl, trivial⟩ ?_
        refine WO_end ?_
        refine WK_cond (b := decide (s37 < p1_0)) rfl (fun hb50 => ?_) (fun hb50 => ?_)
        · have hm44 := ifT hb50 hm44
          refine WK_skip ?_
          refine WK_seq ?_
          refine WK_block ?_
          refine WK_seq ?_
          refine WK_region ?_
          refine WO_loadB tbok 0 rfl rfl rfl rfl (fun _ h => h) rfl rfl ?_
          refine WO_pure tbok 6 [(2, .int .i64 p2), (3, .int .i64 p3), (4, .pointer (some ⟨b3, 0, none⟩)), (5, .pointer (some ⟨b4, 0, none⟩)), (8, .pointer (some ⟨b5, 0, none⟩)), (9, .pointer (some ⟨b16, 0, none⟩)), (10, .int .i64 s20), (11, .int .i64 s37), (26, .agg #[.int .i64 p0_0, .int .i64 p0_1, .int .i64 p0_2, .slice a_p0_3 p0_3.length c_p0_3]), (29, .int .i64 (w64 (p2 + s37))), (32, .int .i64 (w64 (p3 + s20)))] rfl ⟨rfl, rfl, rfl, rfl, rfl, rfl, rfl, rfl, rfl, rfl, rfl, trivial⟩ ?_
          obtain ⟨y51, hc52, hm44⟩ := bind_some hm44
          refine WO_call0 (.bool y51) rfl rfl trivial rfl rfl rfl rfl St_closed ⟨43, #[], #[], rfl, callable_43, fun w hw => ⟨_, hw.sat, fiducialref13_Inside_walk h_p0_3 hc52⟩⟩ ?_
          refine WO_end ?_
          obtain ⟨l53, hx56, hm44⟩ := bind_some hm44
          refine WK_join (β := List Ent) (fun p => OwnE 3 1 (I1 .i64) (.slice a11 ((y9).length) c12) l53 p) (fun p => [(2, .int .i64 p2), (3, .int .i64 p3), (4, .pointer (some ⟨b3, 0, none⟩)), (5, .pointer (some ⟨b4, 0, none⟩)), (8, .pointer (some ⟨b5, 0, none⟩)), (9, .pointer (some ⟨b16, 0, none⟩)), (10, .int .i64 s20), (11, .int .i64 s37)]) (fun p => St w0 m m [[⟨b3, 24, [.int .i64 p0_0, .int .i64 p0_1, .int .i64 p0_2, .slice a_p0_3 p0_3.length c_p0_3]⟩], [⟨b4, 24, [.int .i64 p1_0, .int .i64 p1_1, .int .i64 p1_2, .slice a_p1_3 p1_3.length c_p1_3]⟩], [⟨b5, 24, [.int .i64 0, .int .i64 0, .int .i64 0, .slice none 0 0]⟩], p, [⟨b16, 24, [.int .i64 y6, .int .i64 y7, .int .i64 y8, .slice a11 ((y9).length) c12]⟩]]) ?_ (fun hk57 => ?_)
          · rintro L55 hL55
            refine WK.sub (e' := [(2, .int .i64 p2), (3, .int .i64 p3), (4, .pointer (some ⟨b3, 0, none⟩)), (5, .pointer (some ⟨b4, 0, none⟩)), (8, .pointer (some ⟨b5, 0, none⟩)), (9, .pointer (some ⟨b16, 0, none⟩)), (10, .int .i64 s20), (11, .int .i64 s37)]) ⟨rfl, rfl, rfl, rfl, rfl, rfl, rfl, rfl, trivial⟩ (WK.cls (C' := St w0 m m [[⟨b3, 24, [.int .i64 p0_0, .int .i64 p0_1, .int .i64 p0_2, .slice a_p0_3 p0_3.length c_p0_3]⟩], [⟨b4, 24, [.int .i64 p1_0, .int .i64 p1_1, .int .i64 p1_2, .slice a_p1_3 p1_3.length c_p1_3]⟩], [⟨b5, 24, [.int .i64 0, .int .i64 0, .int .i64 0, .slice none 0 0]⟩], L55, [⟨b16, 24, [.int .i64 y6, .int .i64 y7, .int .i64 y8, .slice a11 ((y9).length) c12]⟩]]) (fun _ h => h) ?_)
            refine WK_blk ?_
            refine WK_region ?_
            refine WO_pure tbok 3 [(2, .int .i64 p2), (3, .int .i64 p3), (4, .pointer (some ⟨b3, 0, none⟩)), (5, .pointer (some ⟨b4, 0, none⟩)), (8, .pointer (some ⟨b5, 0, none⟩)), (9, .pointer (some ⟨b16, 0, none⟩)), (10, .int .i64 s20), (11, .int .i64 (w64 (s37 + 1)))] rfl ⟨rfl, rfl, rfl, rfl, rfl, rfl, rfl, rfl, trivial⟩ ?_
            refine WO_end ?_
            cases hm44
            refine WK.sub ?_ (WK.cls (fun _ h => h) (hn47 _ L55 rfl hL55))
            exact ⟨rfl, rfl, rfl, rfl, rfl, rfl, rfl, rfl, trivial⟩
          · refine WK_cond (b := y51) rfl (fun hb58 => ?_) (fun hb58 => ?_)
            · have hx56 := ifT hb58 hx56
              refine WK_draw 17 [0, 1, 2, 3, 4, 5, 6, 7, 8, 9, 10, 11, 12, 13, 14, 15, 16] follows_ok (by kernel_rfl) St_closed ?_
              refine WO_pure tbok 1 [(2, .int .i64 p2), (3, .int .i64 p3), (4, .pointer (some ⟨b3, 0, none⟩)), (5, .pointer (some ⟨b4, 0, none⟩)), (8, .pointer (some ⟨b5, 0, none⟩)), (9, .pointer (some ⟨b16, 0, none⟩)), (10, .int .i64 s20), (11, .int .i64 s37), (34, .pointer (some ⟨b16, 3, none⟩))] rfl ⟨rfl, rfl, rfl, rfl, rfl, rfl, rfl, rfl, rfl, trivial⟩ ?_
              refine WO_loadB tbok 4 rfl rfl rfl rfl (fun _ h => h) rfl rfl ?_
              refine WO_pure tbok 4 [(2, .int .i64 p2), (3, .int .i64 p3), (4, .pointer (some ⟨b3, 0, none⟩)), (5, .pointer (some ⟨b4, 0, none⟩)), (8, .pointer (some ⟨b5, 0, none⟩)), (9, .pointer (some ⟨b16, 0, none⟩)), (10, .int .i64 s20), (11, .int .i64 s37), (35, .slice a11 ((y9).length) c12), (38, .int .i64 (w64 (p3 + s20))), (39, .pointer (some ⟨b3, 0, none⟩))] rfl ⟨rfl, rfl, rfl, rfl, rfl, rfl, rfl, rfl, rfl, rfl, rfl, trivial⟩ ?_
              refine WO_loadB tbok 0 rfl rfl rfl rfl (fun _ h => h) rfl rfl ?_
              refine WO_pure tbok 5 [(2, .int .i64 p2), (3, .int .i64 p3), (4, .pointer (some ⟨b3, 0, none⟩)), (5, .pointer (some ⟨b4, 0, none⟩)), (8, .pointer (some ⟨b5, 0, none⟩)), (9, .pointer (some ⟨b16, 0, none⟩)), (10, .int .i64 s20), (11, .int .i64 s37), (35, .slice a11 ((y9).length) c12), (45, .int .i64 (w64 ((w64 ((w64 ((w64 (p3 + s20)) * p0_0)) + p2)) + s37)))] rfl ⟨rfl, rfl, rfl, rfl, rfl, rfl, rfl, rfl, rfl, rfl, trivial⟩ ?_
              refine WO_loadB tbok 1 rfl rfl rfl rfl (fun _ h => h) rfl rfl ?_
              refine WO_pure tbok 2 [(2, .int .i64 p2), (3, .int .i64 p3), (4, .pointer (some ⟨b3, 0, none⟩)), (5, .pointer (some ⟨b4, 0, none⟩)), (8, .pointer (some ⟨b5, 0, none⟩)), (9, .pointer (some ⟨b16, 0, none⟩)), (10, .int .i64 s20), (11, .int .i64 s37), (35, .slice a11 ((y9).length) c12), (45, .int .i64 (w64 ((w64 ((w64 ((w64 (p3 + s20)) * p0_0)) + p2)) + s37))), (46, .agg #[.int .i64 p1_0, .int .i64 p1_1, .int .i64 p1_2, .slice a_p1_3 p1_3.length c_p1_3]), (47, .int .i64 s37), (48, .int .i64 s20)] rfl ⟨rfl, rfl, rfl, rfl, rfl, rfl, rfl, rfl, rfl, rfl, rfl, rfl, rfl, trivial⟩ ?_
              obtain ⟨y59, hc60, hx56⟩ := bind_some hx56
              refine WO_call0 (.int .i64 y59) rfl rfl St_closed rfl rfl rfl rfl St_closed ⟨44, #[], #[], rfl, callable_44, fun w hw => ⟨_, hw.sat, fiducialref13_At_walk h_p1_3 hc60⟩⟩ ?_
              obtain ⟨hc61, hx56⟩ := chk_some hx56
              refine WO_index tbok rfl rfl rfl rfl rfl rfl rfl rfl (OwnE.addr hL36) (by simpa using hc61) ?_
              refine WO_tail ?_
              refine WO_storeO (E := (I1 .i64)) tbok (fun _ => rfl) 3 y59 rfl rfl rfl rfl rfl hL36 rfl (by simpa using idx_lt hc61) rfl rfl rfl rfl (fun L62 hL62 => ?_)
              refine WO.cls (C' := St w0 m m [[⟨b3, 24, [.int .i64 p0_0, .int .i64 p0_1, .int .i64 p0_2, .slice a_p0_3 p0_3.length c_p0_3]⟩], [⟨b4, 24, [.int .i64 p1_0, .int .i64 p1_1, .int .i64 p1_2, .slice a_p1_3 p1_3.length c_p1_3]⟩], [⟨b5, 24, [.int .i64 0, .int .i64 0, .int .i64 0, .slice none 0 0]⟩], L62, [⟨b16, 24, [.int .i64 y6, .int .i64 y7, .int .i64 y8, .slice a11 ((y9).length) c12]⟩]]) (fun _ h => h) ?_
              refine WO_end ?_
              cases hx56
              refine WK.sub ?_ (WK.cls (fun _ h => h) (hk57 L62 hL62))
              exact ⟨rfl, rfl, rfl, rfl, rfl, rfl, rfl, rfl, trivial⟩
            · have hx56 := ifF hb58 hx56
              refine WK_skip ?_
              cases hx56
              refine WK.sub ?_ (WK.cls (fun _ h => h) (hk57 L36 hL36))
              exact ⟨rfl, rfl, rfl, rfl, rfl, rfl, rfl, rfl, trivial⟩
        · have hm44 := ifF hb50 hm44
          refine WK_exit rfl ?_
          cases hm44
          refine WK.sub ?_ (WK.cls (fun _ h => h) (hk43 (l34, L36) ⟨(hd48 _ rfl), hL36⟩))
          exact ⟨rfl, rfl, rfl, rfl, rfl, rfl, rfl, trivial⟩
    · have hm27 := ifF hb33 hm27
      refine WK_exit rfl ?_
      cases hm27
      refine WK.sub ?_ (WK.cls (fun _ h => h) (hk26 (l17, L19) ⟨(hd31 _ rfl), hL19⟩))
      exact ⟨rfl, rfl, trivial⟩
theorem fiduciallaw13_RasterPastes_walk {m : Mu} {p0_0 : Int} {p0_1 : Int} {p0_2 : Int} {p0_3 : List Int} {p1_0 : Int} {p1_1 : Int} {p1_2 : Int} {p1_3 : List Int} {p2_0 : Int} {p2_1 : Int} {a_p0_3 : Option Addr} {q_p0_3 c_p0_3 : Nat} {a_p1_3 : Option Addr} {q_p1_3 c_p1_3 : Nat} (h_p0_3 : SlR (FE (I1 .i64)) 1 m (.slice a_p0_3 q_p0_3 c_p0_3) p0_3) (h_p1_3 : SlR (FE (I1 .i64)) 1 m (.slice a_p1_3 q_p1_3 c_p1_3) p1_3) {r : Bool} (hm : fiduciallaw13_RasterPastes p0_0 p0_1 p0_2 p0_3 p1_0 p1_1 p1_2 p1_3 p2_0 p2_1 = some r) :
    Go.E.Spec Try.prog 8 [.agg #[.int .i64 p0_0, .int .i64 p0_1, .int .i64 p0_2, .slice a_p0_3 q_p0_3 c_p0_3], .agg #[.int .i64 p1_0, .int .i64 p1_1, .int .i64 p1_2, .slice a_p1_3 q_p1_3 c_p1_3], .agg #[.int .i64 p2_0, .int .i64 p2_1]] m (fun v _ _ => v = .bool r) := by
  refine Spec_enter Try.func8 rfl rfl rfl (fun w0 => ?_)
  refine WK.sub (e' := [(0, .agg #[.int .i64 p0_0, .int .i64 p0_1, .int .i64 p0_2, .slice a_p0_3 q_p0_3 c_p0_3]), (1, .agg #[.int .i64 p1_0, .int .i64 p1_1, .int .i64 p1_2, .slice a_p1_3 q_p1_3 c_p1_3]), (2, .agg #[.int .i64 p2_0, .int .i64 p2_1])]) ⟨rfl, rfl, rfl, trivial⟩ ?_
  obtain rfl := SlR.qlen h_p0_3
  obtain rfl := SlR.qlen h_p1_3
  refine WK.sub (e' := [(0, .agg #[.int .i64 p0_0, .int .i64 p0_1, .int .i64 p0_2, .slice a_p0_3 p0_3.length c_p0_3]), (1, .agg #[.int .i64 p1_0, .int .i64 p1_1, .int .i64 p1_2, .slice a_p1_3 p1_3.length c_p1_3]), (2, .agg #[.int .i64 p2_0, .int .i64 p2_1])]) ⟨rfl, rfl, rfl, trivial⟩ ?_
  unfold fiduciallaw13_RasterPastes at hm
  refine WK_seq ?_
  refine WK_region ?_
  refine WO_box [.int .i64 p0_0, .int .i64 p0_1, .int .i64 p0_2, .slice a_p0_3 p0_3.length c_p0_3] rfl rfl trivial rfl rfl rfl (fun b3 => ?_)
  refine WO.cls (C' := St w0 m m [[⟨b3, 24, [.int .i64 p0_0, .int .i64 p0_1, .int .i64 p0_2, .slice a_p0_3 p0_3.length c_p0_3]⟩]]) (fun _ h => h) ?_
  refine WO_box [.int .i64 p1_0, .int .i64 p1_1, .int .i64 p1_2, .slice a_p1_3 p1_3.length c_p1_3] rfl rfl trivial rfl rfl rfl (fun b4 => ?_)
  refine WO.cls (C' := St w0 m m [[⟨b3, 24, [.int .i64 p0_0, .int .i64 p0_1, .int .i64 p0_2, .slice a_p0_3 p0_3.length c_p0_3]⟩], [⟨b4, 24, [.int .i64 p1_0, .int .i64 p1_1, .int .i64 p1_2, .slice a_p1_3 p1_3.length c_p1_3]⟩]]) (fun _ h => h) ?_
  refine WO_box [.int .i64 p2_0, .int .i64 p2_1] rfl rfl trivial rfl rfl rfl (fun b5 => ?_)
  refine WO.cls (C' := St w0 m m [[⟨b3, 24, [.int .i64 p0_0, .int .i64 p0_1, .int .i64 p0_2, .slice a_p0_3 p0_3.length c_p0_3]⟩], [⟨b4, 24, [.int .i64 p1_0, .int .i64 p1_1, .int .i64 p1_2, .slice a_p1_3 p1_3.length c_p1_3]⟩], [⟨b5, 58, [.int .i64 p2_0, .int .i64 p2_1]⟩]]) (fun _ h => h) ?_
  refine WO_pure tbok 1 [(3, .pointer (some ⟨b3, 0, none⟩)), (4, .pointer (some ⟨b4, 0, none⟩)), (5, .pointer (some ⟨b5, 0, none⟩)), (6, .bool false)] rfl ⟨rfl, rfl, rfl, rfl, trivial⟩ ?_
  refine WO_end ?_
  refine WK_seq ?_
  refine WK_seq ?_
  refine WK_region ?_
  obtain ⟨y6, hc7, hm⟩ := bind_some hm
  refine WO_call0 (.bool y6) rfl rfl trivial rfl rfl rfl rfl St_closed ⟨11, #[], #[], rfl, callable_11, fun w hw => ⟨_, hw.sat, fiduciallaw13_known_walk hc7⟩⟩ ?_
  refine WO_pure tbok 1 [(3, .pointer (some ⟨b3, 0, none⟩)), (4, .pointer (some ⟨b4, 0, none⟩)), (5, .pointer (some ⟨b5, 0, none⟩)), (6, .bool false), (11, .bool (!y6))] rfl ⟨rfl, rfl, rfl, rfl, rfl, trivial⟩ ?_
  refine WO_end ?_
  refine WK_cond (b := !y6) rfl (fun hb8 => ?_) (fun hb8 => ?_)
  · have hm := ifT hb8 hm
    refine WK_seq ?_
    refine WK_region ?_
    refine WO_pure tbok 1 [(3, .pointer (some ⟨b3, 0, none⟩)), (4, .pointer (some ⟨b4, 0, none⟩)), (5, .pointer (some ⟨b5, 0, none⟩)), (6, .bool false)] rfl ⟨rfl, rfl, rfl, rfl, trivial⟩ ?_
    refine WO_end ?_
    cases hm
    exact WK_ret (ret_out (L := []) (RLc_tmp rfl RLc_nil) (List.nil_sublist _) rfl)
  · have hm := ifF hb8 hm
    refine WK_skip ?_
    refine WK_seq ?_
    refine WK_seq ?_
    refine WK_region ?_
    refine WO_loadB tbok 0 rfl rfl rfl rfl (fun _ h => h) rfl rfl ?_
    refine WO_loadB tbok 1 rfl rfl rfl rfl (fun _ h => h) rfl rfl ?_
    refine WO_bsliceX (E := V4) (El := El24) tbok (fun _ => rfl) (by decide) [.agg #[.int .i64 p0_0, .int .i64 p0_1, .int .i64 p0_2, .slice a_p0_3 p0_3.length c_p0_3], .agg #[.int .i64 p1_0, .int .i64 p1_1, .int .i64 p1_2, .slice a_p1_3 p1_3.length c_p1_3]] [(.int .i64 p0_0, .int .i64 p0_1, .int .i64 p0_2, .slice a_p0_3 p0_3.length c_p0_3), (.int .i64 p1_0, .int .i64 p1_1, .int .i64 p1_2, .slice a_p1_3 p1_3.length c_p1_3)] ([(p0_0, p0_1, p0_2, p0_3), (p1_0, p1_1, p1_2, p1_3)] : List (Int × Int × Int × List Int)) rfl rfl trivial rfl rfl rfl rfl rfl rfl rfl rfl rfl rfl rfl rfl ⟨⟨_, _, _, rfl, h_p0_3⟩, ⟨_, _, _, rfl, h_p1_3⟩, trivial⟩ (fun b9 hb9 => ?_)
    refine WO.cls (C' := St w0 m m [[⟨b3, 24, [.int .i64 p0_0, .int .i64 p0_1, .int .i64 p0_2, .slice a_p0_3 p0_3.length c_p0_3]⟩], [⟨b4, 24, [.int .i64 p1_0, .int .i64 p1_1, .int .i64 p1_2, .slice a_p1_3 p1_3.length c_p1_3]⟩], [⟨b5, 58, [.int .i64 p2_0, .int .i64 p2_1]⟩], [⟨b9, 24, [.int .i64 p0_0, .int .i64 p0_1, .int .i64 p0_2, .slice a_p0_3 p0_3.length c_p0_3, .int .i64 p1_0, .int .i64 p1_1, .int .i64 p1_2, .slice a_p1_3 p1_3.length c_p1_3]⟩]]) (fun _ h => h) ?_
    obtain ⟨y11, hc12, hm⟩ := bind_some hm
    refine WO_call0 (.bool y11) rfl rfl trivial rfl rfl rfl rfl St_closed ⟨12, #[], #[], rfl, callable_12, fun w hw => ⟨_, hw.satV, fiduciallaw13_few_walk (OwnX.rd (E := V4) (k := 4) (fun _ => rfl) hb9 mono_El24 hw.leV (fun _ hx => hw.memV (i := 3) rfl hx)) hc12⟩⟩ ?_
    refine WO_pure tbok 1 [(3, .pointer (some ⟨b3, 0, none⟩)), (4, .pointer (some ⟨b4, 0, none⟩)), (5, .pointer (some ⟨b5, 0, none⟩)), (6, .bool false), (16, .bool (!y11))] rfl ⟨rfl, rfl, rfl, rfl, rfl, trivial⟩ ?_
    refine WO_end ?_
    refine WK_cond (b := !y11) rfl (fun hb13 => ?_) (fun hb13 => ?_)
    · have hm := ifT hb13 hm
      refine WK_seq ?_
      refine WK_region ?_
      refine WO_pure tbok 1 [(3, .pointer (some ⟨b3, 0, none⟩)), (4, .pointer (some ⟨b4, 0, none⟩)), (5, .pointer (some ⟨b5, 0, none⟩)), (6, .bool true)] rfl ⟨rfl, rfl, rfl, rfl, trivial⟩ ?_
      refine WO_end ?_
      cases hm
      exact WK_ret (ret_out (L := []) (RLc_tmp rfl RLc_nil) (List.nil_sublist _) rfl)
    · have hm := ifF hb13 hm
      refine WK_skip ?_
      refine WK_seq ?_
      refine WK_region ?_
      refine WO_loadB tbok 0 rfl rfl rfl rfl (fun _ h => h) rfl rfl ?_
      refine WO_loadB tbok 1 rfl rfl rfl rfl (fun _ h => h) rfl rfl ?_
      refine WO_pure tbok 1 [(3, .pointer (some ⟨b3, 0, none⟩)), (4, .pointer (some ⟨b4, 0, none⟩)), (5, .pointer (some ⟨b5, 0, none⟩)), (6, .bool false), (18, .agg #[.int .i64 p0_0, .int .i64 p0_1, .int .i64 p0_2, .slice a_p0_3 p0_3.length c_p0_3]), (19, .agg #[.int .i64 p1_0, .int .i64 p1_1, .int .i64 p1_2, .slice a_p1_3 p1_3.length c_p1_3]), (20, .pointer (some ⟨b5, 0, none⟩))] rfl ⟨rfl, rfl, rfl, rfl, rfl, rfl, rfl, trivial⟩ ?_
      refine WO_loadB tbok 2 rfl rfl rfl rfl (fun _ h => h) rfl rfl ?_
      refine WO_pure tbok 1 [(3, .pointer (some ⟨b3, 0, none⟩)), (4, .pointer (some ⟨b4, 0, none⟩)), (5, .pointer (some ⟨b5, 0, none⟩)), (6, .bool false), (18, .agg #[.int .i64 p0_0, .int .i64 p0_1, .int .i64 p0_2, .slice a_p0_3 p0_3.length c_p0_3]), (19, .agg #[.int .i64 p1_0, .int .i64 p1_1, .int .i64 p1_2, .slice a_p1_3 p1_3.length c_p1_3]), (21, .int .i64 p2_0), (22, .pointer (some ⟨b5, 1, none⟩))] rfl ⟨rfl, rfl, rfl, rfl, rfl, rfl, rfl, rfl, trivial⟩ ?_
      refine WO_loadB tbok 2 rfl rfl rfl rfl (fun _ h => h) rfl rfl ?_
      obtain ⟨⟨y14, y15, y16, y17, y18⟩, hc19, hm⟩ := bind_some hm
      refine WO_call1 (raster_Paste_Q (y14, y15, y16, y17, y18)) rfl rfl trivial rfl rfl rfl rfl ⟨37, #[], #[], rfl, callable_37, fun w hw => ⟨_, hw.sat, raster_Paste_walk h_p0_3 h_p1_3 hc19⟩⟩ (fun v24 L23 hq => ?_)
      obtain ⟨a20, qa20, c21, rfl, hL23⟩ := hq
      obtain rfl := OwnE.qlen hL23
      refine WO.cls (C' := St w0 m m [[⟨b3, 24, [.int .i64 p0_0, .int .i64 p0_1, .int .i64 p0_2, .slice a_p0_3 p0_3.length c_p0_3]⟩], [⟨b4, 24, [.int .i64 p1_0, .int .i64 p1_1, .int .i64 p1_2, .slice a_p1_3 p1_3.length c_p1_3]⟩], [⟨b5, 58, [.int .i64 p2_0, .int .i64 p2_1]⟩], [⟨b9, 24, [.int .i64 p0_0, .int .i64 p0_1, .int .i64 p0_2, .slice a_p0_3 p0_3.length c_p0_3, .int .i64 p1_0, .int .i64 p1_1, .int .i64 p1_2, .slice a_p1_3 p1_3.length c_p1_3]⟩], L23]) (fun _ h => h) ?_
      refine WO_pure tbok 3 [(3, .pointer (some ⟨b3, 0, none⟩)), (4, .pointer (some ⟨b4, 0, none⟩)), (5, .pointer (some ⟨b5, 0, none⟩)), (6, .bool false), (25, .agg #[.int .i64 y14, .int .i64 y15, .int .i64 y16, .slice a20 ((y17).length) c21]), (26, .int .i64 y18)] rfl ⟨rfl, rfl, rfl, rfl, rfl, rfl, trivial⟩ ?_
      refine WO_alloc tbok [.int .i64 0, .int .i64 0, .int .i64 0, .slice none 0 0] rfl rfl trivial rfl rfl rfl rfl (fun b25 => ?_)
      refine WO.cls (C' := St w0 m m [[⟨b3, 24, [.int .i64 p0_0, .int .i64 p0_1, .int .i64 p0_2, .slice a_p0_3 p0_3.length c_p0_3]⟩], [⟨b4, 24, [.int .i64 p1_0, .int .i64 p1_1, .int .i64 p1_2, .slice a_p1_3 p1_3.length c_p1_3]⟩], [⟨b5, 58, [.int .i64 p2_0, .int .i64 p2_1]⟩], [⟨b9, 24, [.int .i64 p0_0, .int .i64 p0_1, .int .i64 p0_2, .slice a_p0_3 p0_3.length c_p0_3, .int .i64 p1_0, .int .i64 p1_1, .int .i64 p1_2, .slice a_p1_3 p1_3.length c_p1_3]⟩], L23, [⟨b25, 24, [.int .i64 0, .int .i64 0, .int .i64 0, .slice none 0 0]⟩]]) (fun _ h => h) ?_
      refine WO_storeB tbok 5 [.int .i64 y14, .int .i64 y15, .int .i64 y16, .slice a20 ((y17).length) c21] rfl rfl rfl rfl rfl rfl rfl ?_
      refine WO.cls (C' := St w0 m m [[⟨b3, 24, [.int .i64 p0_0, .int .i64 p0_1, .int .i64 p0_2, .slice a_p0_3 p0_3.length c_p0_3]⟩], [⟨b4, 24, [.int .i64 p1_0, .int .i64 p1_1, .int .i64 p1_2, .slice a_p1_3 p1_3.length c_p1_3]⟩], [⟨b5, 58, [.int .i64 p2_0, .int .i64 p2_1]⟩], [⟨b9, 24, [.int .i64 p0_0, .int .i64 p0_1, .int .i64 p0_2, .slice a_p0_3 p0_3.length c_p0_3, .int .i64 p1_0, .int .i64 p1_1, .int .i64 p1_2, .slice a_p1_3 p1_3.length c_p1_3]⟩], L23, [⟨b25, 24, [.int .i64 y14, .int .i64 y15, .int .i64 y16, .slice a20 ((y17).length) c21]⟩]]) (fun _ h => h) ?_
      refine WO_pure tbok 1 [(3, .pointer (some ⟨b3, 0, none⟩)), (4, .pointer (some ⟨b4, 0, none⟩)), (5, .pointer (some ⟨b5, 0, none⟩)), (6, .bool false), (7, .pointer (some ⟨b25, 0, none⟩)), (8, .int .i64 y18)] rfl ⟨rfl, rfl, rfl, rfl, rfl, rfl, trivial⟩ ?_
      refine WO_end ?_
      refine WK_seq ?_
      refine WK_region ?_
      refine WO_loadB tbok 0 rfl rfl rfl rfl (fun _ h => h) rfl rfl ?_
      obtain ⟨y26, hc27, hm⟩ := bind_some hm
      refine WO_call0 (.int .i64 y26) rfl rfl trivial rfl rfl rfl rfl St_closed ⟨15, #[], #[], rfl, callable_15, fun w hw => ⟨_, hw.sat, fiducialref13_Check_walk h_p0_3 hc27⟩⟩ ?_
      refine WO_pure tbok 1 [(3, .pointer (some ⟨b3, 0, none⟩)), (4, .pointer (some ⟨b4, 0, none⟩)), (5, .pointer (some ⟨b5, 0, none⟩)), (6, .bool false), (7, .pointer (some ⟨b25, 0, none⟩)), (8, .int .i64 y18), (9, .int .i64 y26)] rfl ⟨rfl, rfl, rfl, rfl, rfl, rfl, rfl, trivial⟩ ?_
      refine WO_end ?_
      refine WK_seq ?_
      refine WK_seq ?_
      refine WK_region ?_
      refine WO_pure tbok 2 [(3, .pointer (some ⟨b3, 0, none⟩)), (4, .pointer (some ⟨b4, 0, none⟩)), (5, .pointer (some ⟨b5, 0, none⟩)), (6, .bool false), (7, .pointer (some ⟨b25, 0, none⟩)), (8, .int .i64 y18), (9, .int .i64 y26), (30, .bool (y26 == 0))] rfl ⟨rfl, rfl, rfl, rfl, rfl, rfl, rfl, rfl, trivial⟩ ?_
      refine WO_end ?_
      obtain ⟨s28, hx29, hm⟩ := bind_some hm
      refine WK_meet [(3, .pointer (some ⟨b3, 0, none⟩)), (4, .pointer (some ⟨b4, 0, none⟩)), (5, .pointer (some ⟨b5, 0, none⟩)), (6, .bool false), (7, .pointer (some ⟨b25, 0, none⟩)), (8, .int .i64 y18), (9, .int .i64 s28)] (St w0 m m [[⟨b3, 24, [.int .i64 p0_0, .int .i64 p0_1, .int .i64 p0_2, .slice a_p0_3 p0_3.length c_p0_3]⟩], [⟨b4, 24, [.int .i64 p1_0, .int .i64 p1_1, .int .i64 p1_2, .slice a_p1_3 p1_3.length c_p1_3]⟩], [⟨b5, 58, [.int .i64 p2_0, .int .i64 p2_1]⟩], [⟨b9, 24, [.int .i64 p0_0, .int .i64 p0_1, .int .i64 p0_2, .slice a_p0_3 p0_3.length c_p0_3, .int .i64 p1_0, .int .i64 p1_1, .int .i64 p1_2, .slice a_p1_3 p1_3.length c_p1_3]⟩], L23, [⟨b25, 24, [.int .i64 y14, .int .i64 y15, .int .i64 y16, .slice a20 ((y17).length) c21]⟩]]) ?_ (fun hk30 => ?_)
      · refine WK_seq ?_
        refine WK_seq ?_
        obtain ⟨s31, hx32, hm⟩ := bind_some hm
        refine WK_meet [(3, .pointer (some ⟨b3, 0, none⟩)), (4, .pointer (some ⟨b4, 0, none⟩)), (5, .pointer (some ⟨b5, 0, none⟩)), (6, .bool false), (7, .pointer (some ⟨b25, 0, none⟩)), (8, .int .i64 y18), (9, .int .i64 s28), (41, .bool s31)] (St w0 m m [[⟨b3, 24, [.int .i64 p0_0, .int .i64 p0_1, .int .i64 p0_2, .slice a_p0_3 p0_3.length c_p0_3]⟩], [⟨b4, 24, [.int .i64 p1_0, .int .i64 p1_1, .int .i64 p1_2, .slice a_p1_3 p1_3.length c_p1_3]⟩], [⟨b5, 58, [.int .i64 p2_0, .int .i64 p2_1]⟩], [⟨b9, 24, [.int .i64 p0_0, .int .i64 p0_1, .int .i64 p0_2, .slice a_p0_3 p0_3.length c_p0_3, .int .i64 p1_0, .int .i64 p1_1, .int .i64 p1_2, .slice a_p1_3 p1_3.length c_p1_3]⟩], L23, [⟨b25, 24, [.int .i64 y14, .int .i64 y15, .int .i64 y16, .slice a20 ((y17).length) c21]⟩]]) ?_ (fun hk33 => ?_)
        · obtain ⟨s34, hx35, hm⟩ := bind_some hm
          refine WK_meet [(3, .pointer (some ⟨b3, 0, none⟩)), (4, .pointer (some ⟨b4, 0, none⟩)), (5, .pointer (some ⟨b5, 0, none⟩)), (6, .bool false), (7, .pointer (some ⟨b25, 0, none⟩)), (8, .int .i64 y18), (9, .int .i64 s34)] (St w0 m m [[⟨b3, 24, [.int .i64 p0_0, .int .i64 p0_1, .int .i64 p0_2, .slice a_p0_3 p0_3.length c_p0_3]⟩], [⟨b4, 24, [.int .i64 p1_0, .int .i64 p1_1, .int .i64 p1_2, .slice a_p1_3 p1_3.length c_p1_3]⟩], [⟨b5, 58, [.int .i64 p2_0, .int .i64 p2_1]⟩], [⟨b9, 24, [.int .i64 p0_0, .int .i64 p0_1, .int .i64 p0_2, .slice a_p0_3 p0_3.length c_p0_3, .int .i64 p1_0, .int .i64 p1_1, .int .i64 p1_2, .slice a_p1_3 p1_3.length c_p1_3]⟩], L23, [⟨b25, 24, [.int .i64 y14, .int .i64 y15, .int .i64 y16, .slice a20 ((y17).length) c21]⟩]]) ?_ (fun hk36 => ?_)
          · refine WK_seq ?_
            refine WK_seq ?_
            obtain ⟨s37, hx38, hm⟩ := bind_some hm
            refine WK_meet [(3, .pointer (some ⟨b3, 0, none⟩)), (4, .pointer (some ⟨b4, 0, none⟩)), (5, .pointer (some ⟨b5, 0, none⟩)), (6, .bool false), (7, .pointer (some ⟨b25, 0, none⟩)), (8, .int .i64 y18), (9, .int .i64 s34), (63, .bool s37)] (St w0 m m [[⟨b3, 24, [.int .i64 p0_0, .int .i64 p0_1, .int .i64 p0_2, .slice a_p0_3 p0_3.length c_p0_3]⟩], [⟨b4, 24, [.int .i64 p1_0, .int .i64 p1_1, .int .i64 p1_2, .slice a_p1_3 p1_3.length c_p1_3]⟩], [⟨b5, 58, [.int .i64 p2_0, .int .i64 p2_1]⟩], [⟨b9, 24, [.int .i64 p0_0, .int .i64 p0_1, .int .i64 p0_2, .slice a_p0_3 p0_3.length c_p0_3, .int .i64 p1_0, .int .i64 p1_1, .int .i64 p1_2, .slice a_p1_3 p1_3.length c_p1_3]⟩], L23, [⟨b25, 24, [.int .i64 y14, .int .i64 y15, .int .i64 y16, .slice a20 ((y17).length) c21]⟩]]) ?_ (fun hk39 => ?_)
            · obtain ⟨s40, hx41, hm⟩ := bind_some hm
              refine WK_meet [(3, .pointer (some ⟨b3, 0, none⟩)), (4, .pointer (some ⟨b4, 0, none⟩)), (5, .pointer (some ⟨b5, 0, none⟩)), (6, .bool false), (7, .pointer (some ⟨b25, 0, none⟩)), (8, .int .i64 y18), (9, .int .i64 s40)] (St w0 m m [[⟨b3, 24, [.int .i64 p0_0, .int .i64 p0_1, .int .i64 p0_2, .slice a_p0_3 p0_3.length c_p0_3]⟩], [⟨b4, 24, [.int .i64 p1_0, .int .i64 p1_1, .int .i64 p1_2, .slice a_p1_3 p1_3.length c_p1_3]⟩], [⟨b5, 58, [.int .i64 p2_0, .int .i64 p2_1]⟩], [⟨b9, 24, [.int .i64 p0_0, .int .i64 p0_1, .int .i64 p0_2, .slice a_p0_3 p0_3.length c_p0_3, .int .i64 p1_0, .int .i64 p1_1, .int .i64 p1_2, .slice a_p1_3 p1_3.length c_p1_3]⟩], L23, [⟨b25, 24, [.int .i64 y14, .int .i64 y15, .int .i64 y16, .slice a20 ((y17).length) c21]⟩]]) ?_ (fun hk42 => ?_)
              · refine WK_seq ?_
                refine WK_seq ?_
                refine WK_region ?_
                refine WO_pure tbok 2 [(3, .pointer (some ⟨b3, 0, none⟩)), (4, .pointer (some ⟨b4, 0, none⟩)), (5, .pointer (some ⟨b5, 0, none⟩)), (6, .bool false), (7, .pointer (some ⟨b25, 0, none⟩)), (8, .int .i64 y18), (9, .int .i64 s40), (65, .bool (s40 != 0))] rfl ⟨rfl, rfl, rfl, rfl, rfl, rfl, rfl, rfl, trivial⟩ ?_
                refine WO_end ?_
                refine WK_cond (b := s40 != 0) rfl (fun hb43 => ?_) (fun hb43 => ?_)
                · have hm := ifT hb43 hm
                  refine WK_seq ?_
                  refine WK_region ?_
                  refine WO_pure tbok 4 [(3, .pointer (some ⟨b3, 0, none⟩)), (4, .pointer (some ⟨b4, 0, none⟩)), (5, .pointer (some ⟨b5, 0, none⟩)), (6, .bool false), (7, .pointer (some ⟨b25, 0, none⟩)), (8, .int .i64 y18), (69, .bool (y18 == s40))] rfl ⟨rfl, rfl, rfl, rfl, rfl, rfl, rfl, trivial⟩ ?_
                  refine WO_split (d := 69) (b := y18 == s40) rfl (fun hb44 => ?_) (fun hb44 => ?_)
                  · have hm := ifT hb44 hm
                    refine WO_loadB tbok 5 rfl rfl rfl rfl (fun _ h => h) rfl rfl ?_
                    obtain ⟨y45, hc46, hm⟩ := bind_some hm
                    refine WO_call0 (.bool y45) rfl rfl trivial rfl rfl rfl rfl St_closed ⟨16, #[], #[], rfl, callable_16, fun w hw => ⟨_, hw.satV, fiduciallaw13_empty_walk (OwnE.rd (E := (I1 .i64)) (k := 1) (fun _ => rfl) hL23 (fun _ hx => hw.memV (i := 4) rfl hx)) hc46⟩⟩ ?_
                    refine WO_pure tbok 2 [(3, .pointer (some ⟨b3, 0, none⟩)), (4, .pointer (some ⟨b4, 0, none⟩)), (5, .pointer (some ⟨b5, 0, none⟩)), (6, .bool y45), (7, .pointer (some ⟨b25, 0, none⟩)), (8, .int .i64 y18)] rfl ⟨rfl, rfl, rfl, rfl, rfl, rfl, trivial⟩ ?_
                    refine WO_end ?_
                    cases hm
                    exact WK_ret (ret_out (L := []) (RLc_tmp rfl RLc_nil) (List.nil_sublist _) rfl)
                  · have hm := ifF hb44 hm
                    refine WO_pure tbok 1 [(3, .pointer (some ⟨b3, 0, none⟩)), (4, .pointer (some ⟨b4, 0, none⟩)), (5, .pointer (some ⟨b5, 0, none⟩)), (6, .bool false), (7, .pointer (some ⟨b25, 0, none⟩)), (8, .int .i64 y18), (69, .bool false)] rfl ⟨rfl, rfl, rfl, rfl, rfl, rfl, rfl, trivial⟩ ?_
                    refine WO_skip rfl rfl ?_
                    refine WO_pure tbok 2 [(3, .pointer (some ⟨b3, 0, none⟩)), (4, .pointer (some ⟨b4, 0, none⟩)), (5, .pointer (some ⟨b5, 0, none⟩)), (6, .bool false), (7, .pointer (some ⟨b25, 0, none⟩)), (8, .int .i64 y18)] rfl ⟨rfl, rfl, rfl, rfl, rfl, rfl, trivial⟩ ?_
                    refine WO_end ?_
                    cases hm
                    exact WK_ret (ret_out (L := []) (RLc_tmp rfl RLc_nil) (List.nil_sublist _) rfl)
                · have hm := ifF hb43 hm
                  refine WK_skip ?_
                  refine WK_seq ?_
                  refine WK_draw 14 [0, 1, 2, 3, 4, 5, 6, 7, 8, 9, 10, 11, 12, 13] follows_ok (by kernel_rfl) St_closed ?_
                  refine WO_pure tbok 3 [(3, .pointer (some ⟨b3, 0, none⟩)), (4, .pointer (some ⟨b4, 0, none⟩)), (5, .pointer (some ⟨b5, 0, none⟩)), (6, .bool false), (7, .pointer (some ⟨b25, 0, none⟩)), (75, .bool (y18 == 0))] rfl ⟨rfl, rfl, rfl, rfl, rfl, rfl, trivial⟩ ?_
                  refine WO_split (d := 75) (b := y18 == 0) rfl (fun hb47 => ?_) (fun hb47 => ?_)
                  · have hm := ifT hb47 hm
                    refine WO_loadB tbok 5 rfl rfl rfl rfl (fun _ h => h) rfl rfl ?_
                    refine WO_loadB tbok 0 rfl rfl rfl rfl (fun _ h => h) rfl rfl ?_
                    refine WO_loadB tbok 1 rfl rfl rfl rfl (fun _ h => h) rfl rfl ?_
                    refine WO_pure tbok 1 [(5, .pointer (some ⟨b5, 0, none⟩)), (6, .bool false), (75, .bool true), (76, .agg #[.int .i64 y14, .int .i64 y15, .int .i64 y16, .slice a20 ((y17).length) c21]), (77, .agg #[.int .i64 p0_0, .int .i64 p0_1, .int .i64 p0_2, .slice a_p0_3 p0_3.length c_p0_3]), (78, .agg #[.int .i64 p1_0, .int .i64 p1_1, .int .i64 p1_2, .slice a_p1_3 p1_3.length c_p1_3]), (79, .pointer (some ⟨b5, 0, none⟩))] rfl ⟨rfl, rfl, rfl, rfl, rfl, rfl, rfl, trivial⟩ ?_
                    refine WO_loadB tbok 2 rfl rfl rfl rfl (fun _ h => h) rfl rfl ?_
                    refine WO_pure tbok 1 [(6, .bool false), (75, .bool true), (76, .agg #[.int .i64 y14, .int .i64 y15, .int .i64 y16, .slice a20 ((y17).length) c21]), (77, .agg #[.int .i64 p0_0, .int .i64 p0_1, .int .i64 p0_2, .slice a_p0_3 p0_3.length c_p0_3]), (78, .agg #[.int .i64 p1_0, .int .i64 p1_1, .int .i64 p1_2, .slice a_p1_3 p1_3.length c_p1_3]), (80, .int .i64 p2_0), (81, .pointer (some ⟨b5, 1, none⟩))] rfl ⟨rfl, rfl, rfl, rfl, rfl, rfl, rfl, trivial⟩ ?_
                    refine WO_loadB tbok 2 rfl rfl rfl rfl (fun _ h => h) rfl rfl ?_
                    obtain ⟨⟨y48, y49, y50, y51⟩, hc52, hm⟩ := bind_some hm
                    refine WO_call1 (fiducialref13_Paste_Q (y48, y49, y50, y51)) rfl rfl St_closed rfl rfl rfl rfl ⟨38, #[], #[], rfl, callable_38, fun w hw => ⟨_, hw.sat, fiducialref13_Paste_walk h_p0_3 h_p1_3 hc52⟩⟩ (fun v57 L56 hq => ?_)
                    obtain ⟨a53, qa53, c54, rfl, hL56⟩ := hq
                    obtain rfl := OwnE.qlen hL56
                    refine WO.cls (C' := St w0 m m [[⟨b3, 24, [.int .i64 p0_0, .int .i64 p0_1, .int .i64 p0_2, .slice a_p0_3 p0_3.length c_p0_3]⟩], [⟨b4, 24, [.int .i64 p1_0, .int .i64 p1_1, .int .i64 p1_2, .slice a_p1_3 p1_3.length c_p1_3]⟩], [⟨b5, 58, [.int .i64 p2_0, .int .i64 p2_1]⟩], [⟨b9, 24, [.int .i64 p0_0, .int .i64 p0_1, .int .i64 p0_2, .slice a_p0_3 p0_3.length c_p0_3, .int .i64 p1_0, .int .i64 p1_1, .int .i64 p1_2, .slice a_p1_3 p1_3.length c_p1_3]⟩], L23, [⟨b25, 24, [.int .i64 y14, .int .i64 y15, .int .i64 y16, .slice a20 ((y17).length) c21]⟩], L56]) (fun _ h => h) ?_
                    obtain ⟨y58, hc59, hm⟩ := bind_some hm
                    refine WO_call0 (.bool y58) rfl rfl St_closed rfl rfl rfl rfl St_closed ⟨17, #[], #[], rfl, callable_17, fun w hw => ⟨_, hw.satV, fiducialref13_Equal_walk (OwnE.rd (E := (I1 .i64)) (k := 1) (fun _ => rfl) hL23 (fun _ hx => hw.memV (i := 4) rfl hx)) (OwnE.rd (E := (I1 .i64)) (k := 1) (fun _ => rfl) hL56 (fun _ hx => hw.memV (i := 6) rfl hx)) hc59⟩⟩ ?_
                    refine WO_pure tbok 2 [(6, .bool y58)] rfl ⟨rfl, trivial⟩ ?_
                    refine WO_tail ?_
                    refine WO_end ?_
                    cases hm
                    exact WK_ret (ret_out (L := []) (RLc_tmp rfl RLc_nil) (List.nil_sublist _) rfl)
                  · have hm := ifF hb47 hm
                    refine WO_pure tbok 7 [(6, .bool false), (75, .bool false)] rfl ⟨rfl, rfl, trivial⟩ ?_
                    refine WO_skip rfl rfl ?_
                    refine WO_skip rfl rfl ?_
                    refine WO_pure tbok 2 [(6, .bool false)] rfl ⟨rfl, trivial⟩ ?_
                    refine WO_tail ?_
                    refine WO_end ?_
                    cases hm
                    exact WK_ret (ret_out (L := []) (RLc_tmp rfl RLc_nil) (List.nil_sublist _) rfl)
              · refine WK_cond (b := s37) rfl (fun hb60 => ?_) (fun hb60 => ?_)
                · have hx41 := ifT hb60 hx41
                  refine WK_region ?_
                  refine WO_pure tbok 1 [(3, .pointer (some ⟨b3, 0, none⟩)), (4, .pointer (some ⟨b4, 0, none⟩)), (5, .pointer (some ⟨b5, 0, none⟩)), (6, .bool false), (7, .pointer (some ⟨b25, 0, none⟩)), (8, .int .i64 y18), (9, .int .i64 2)] rfl ⟨rfl, rfl, rfl, rfl, rfl, rfl, rfl, trivial⟩ ?_
                  refine WO_end ?_
                  cases hx41
                  refine WK.sub ?_ (WK.cls (fun _ h => h) hk42)
                  exact ⟨rfl, rfl, rfl, rfl, rfl, rfl, rfl, trivial⟩
                · have hx41 := ifF hb60 hx41
                  refine WK_skip ?_
                  cases hx41
                  refine WK.sub ?_ (WK.cls (fun _ h => h) hk42)
                  exact ⟨rfl, rfl, rfl, rfl, rfl, rfl, rfl, trivial⟩
            · refine WK_region ?_
              refine WO_pure tbok 3 [(3, .pointer (some ⟨b3, 0, none⟩)), (4, .pointer (some ⟨b4, 0, none⟩)), (5, .pointer (some ⟨b5, 0, none⟩)), (6, .bool false), (7, .pointer (some ⟨b25, 0, none⟩)), (8, .int .i64 y18), (9, .int .i64 s34), (44, .bool (s34 == 0))] rfl ⟨rfl, rfl, rfl, rfl, rfl, rfl, rfl, rfl, trivial⟩ ?_
              refine WO_split (d := 44) (b := s34 == 0) rfl (fun hb61 => ?_) (fun hb61 => ?_)
              · have hx38 := ifT hb61 hx38
                refine WO_pure tbok 1 [(3, .pointer (some ⟨b3, 0, none⟩)), (4, .pointer (some ⟨b4, 0, none⟩)), (5, .pointer (some ⟨b5, 0, none⟩)), (6, .bool false), (7, .pointer (some ⟨b25, 0, none⟩)), (8, .int .i64 y18), (9, .int .i64 s34), (44, .bool true), (45, .pointer (some ⟨b5, 0, none⟩))] rfl ⟨rfl, rfl, rfl, rfl, rfl, rfl, rfl, rfl, rfl, trivial⟩ ?_
                refine WO_loadB tbok 2 rfl rfl rfl rfl (fun _ h => h) rfl rfl ?_
                refine WO_pure tbok 2 [(3, .pointer (some ⟨b3, 0, none⟩)), (4, .pointer (some ⟨b4, 0, none⟩)), (5, .pointer (some ⟨b5, 0, none⟩)), (6, .bool false), (7, .pointer (some ⟨b25, 0, none⟩)), (8, .int .i64 y18), (9, .int .i64 s34), (44, .bool true), (48, .bool (decide (p2_0 < (-64))))] rfl ⟨rfl, rfl, rfl, rfl, rfl, rfl, rfl, rfl, rfl, trivial⟩ ?_
                refine WO_split (d := 48) (b := decide (p2_0 < (-64))) rfl (fun hb62 => ?_) (fun hb62 => ?_)
                · have hx38 := ifT hb62 hx38
                  refine WO_pure tbok 15 [(3, .pointer (some ⟨b3, 0, none⟩)), (4, .pointer (some ⟨b4, 0, none⟩)), (5, .pointer (some ⟨b5, 0, none⟩)), (6, .bool false), (7, .pointer (some ⟨b25, 0, none⟩)), (8, .int .i64 y18), (9, .int .i64 s34), (63, .bool true)] rfl ⟨rfl, rfl, rfl, rfl, rfl, rfl, rfl, rfl, trivial⟩ ?_
                  refine WO_end ?_
                  cases hx38
                  refine WK.sub ?_ (WK.cls (fun _ h => h) hk39)
                  exact ⟨rfl, rfl, rfl, rfl, rfl, rfl, rfl, rfl, trivial⟩
                · have hx38 := ifF hb62 hx38
                  refine WO_pure tbok 1 [(3, .pointer (some ⟨b3, 0, none⟩)), (4, .pointer (some ⟨b4, 0, none⟩)), (5, .pointer (some ⟨b5, 0, none⟩)), (6, .bool false), (7, .pointer (some ⟨b25, 0, none⟩)), (8, .int .i64 y18), (9, .int .i64 s34), (44, .bool true), (48, .bool false), (49, .pointer (some ⟨b5, 0, none⟩))] rfl ⟨rfl, rfl, rfl, rfl, rfl, rfl, rfl, rfl, rfl, rfl, trivial⟩ ?_
                  refine WO_loadB tbok 2 rfl rfl rfl rfl (fun _ h => h) rfl rfl ?_
                  refine WO_pure tbok 3 [(3, .pointer (some ⟨b3, 0, none⟩)), (4, .pointer (some ⟨b4, 0, none⟩)), (5, .pointer (some ⟨b5, 0, none⟩)), (6, .bool false), (7, .pointer (some ⟨b25, 0, none⟩)), (8, .int .i64 y18), (9, .int .i64 s34), (44, .bool true), (53, .bool (decide (64 < p2_0)))] rfl ⟨rfl, rfl, rfl, rfl, rfl, rfl, rfl, rfl, rfl, trivial⟩ ?_
                  refine WO_split (d := 53) (b := decide (64 < p2_0)) rfl (fun hb63 => ?_) (fun hb63 => ?_)
                  · have hx38 := ifT hb63 hx38
                    refine WO_pure tbok 10 [(3, .pointer (some ⟨b3, 0, none⟩)), (4, .pointer (some ⟨b4, 0, none⟩)), (5, .pointer (some ⟨b5, 0, none⟩)), (6, .bool false), (7, .pointer (some ⟨b25, 0, none⟩)), (8, .int .i64 y18), (9, .int .i64 s34), (63, .bool true)] rfl ⟨rfl, rfl, rfl, rfl, rfl, rfl, rfl, rfl, trivial⟩ ?_
                    refine WO_end ?_
                    cases hx38
                    refine WK.sub ?_ (WK.cls (fun _ h => h) hk39)
                    exact ⟨rfl, rfl, rfl, rfl, rfl, rfl, rfl, rfl, trivial⟩
                  · have hx38 := ifF hb63 hx38
                    refine WO_pure tbok 1 [(3, .pointer (some ⟨b3, 0, none⟩)), (4, .pointer (some ⟨b4, 0, none⟩)), (5, .pointer (some ⟨b5, 0, none⟩)), (6, .bool false), (7, .pointer (some ⟨b25, 0, none⟩)), (8, .int .i64 y18), (9, .int .i64 s34), (44, .bool true), (53, .bool false), (54, .pointer (some ⟨b5, 1, none⟩))] rfl ⟨rfl, rfl, rfl, rfl, rfl, rfl, rfl, rfl, rfl, rfl, trivial⟩ ?_
                    refine WO_loadB tbok 2 rfl rfl rfl rfl (fun _ h => h) rfl rfl ?_
                    refine WO_pure tbok 3 [(3, .pointer (some ⟨b3, 0, none⟩)), (4, .pointer (some ⟨b4, 0, none⟩)), (5, .pointer (some ⟨b5, 0, none⟩)), (6, .bool false), (7, .pointer (some ⟨b25, 0, none⟩)), (8, .int .i64 y18), (9, .int .i64 s34), (44, .bool true), (58, .bool (decide (p2_1 < (-64))))] rfl ⟨rfl, rfl, rfl, rfl, rfl, rfl, rfl, rfl, rfl, trivial⟩ ?_
                    refine WO_split (d := 58) (b := decide (p2_1 < (-64))) rfl (fun hb64 => ?_) (fun hb64 => ?_)
                    · have hx38 := ifT hb64 hx38
                      refine WO_pure tbok 5 [(3, .pointer (some ⟨b3, 0, none⟩)), (4, .pointer (some ⟨b4, 0, none⟩)), (5, .pointer (some ⟨b5, 0, none⟩)), (6, .bool false), (7, .pointer (some ⟨b25, 0, none⟩)), (8, .int .i64 y18), (9, .int .i64 s34), (63, .bool true)] rfl ⟨rfl, rfl, rfl, rfl, rfl, rfl, rfl, rfl, trivial⟩ ?_
                      refine WO_end ?_
                      cases hx38
                      refine WK.sub ?_ (WK.cls (fun _ h => h) hk39)
                      exact ⟨rfl, rfl, rfl, rfl, rfl, rfl, rfl, rfl, trivial⟩
                    · have hx38 := ifF hb64 hx38
                      refine WO_pure tbok 1 [(3, .pointer (some ⟨b3, 0, none⟩)), (4, .pointer (some ⟨b4, 0, none⟩)), (5, .pointer (some ⟨b5, 0, none⟩)), (6, .bool false), (7, .pointer (some ⟨b25, 0, none⟩)), (8, .int .i64 y18), (9, .int .i64 s34), (44, .bool true), (58, .bool false), (59, .pointer (some ⟨b5, 1, none⟩))] rfl ⟨rfl, rfl, rfl, rfl, rfl, rfl, rfl, rfl, rfl, rfl, trivial⟩ ?_
                      refine WO_loadB tbok 2 rfl rfl rfl rfl (fun _ h => h) rfl rfl ?_
                      refine WO_pure tbok 3 [(3, .pointer (some ⟨b3, 0, none⟩)), (4, .pointer (some ⟨b4, 0, none⟩)), (5, .pointer (some ⟨b5, 0, none⟩)), (6, .bool false), (7, .pointer (some ⟨b25, 0, none⟩)), (8, .int .i64 y18), (9, .int .i64 s34), (63, .bool (decide (64 < p2_1)))] rfl ⟨rfl, rfl, rfl, rfl, rfl, rfl, rfl, rfl, trivial⟩ ?_
                      refine WO_end ?_
                      cases hx38
                      refine WK.sub ?_ (WK.cls (fun _ h => h) hk39)
                      exact ⟨rfl, rfl, rfl, rfl, rfl, rfl, rfl, rfl, trivial⟩
              · have hx38 := ifF hb61 hx38
                refine WO_pure tbok 19 [(3, .pointer (some ⟨b3, 0, none⟩)), (4, .pointer (some ⟨b4, 0, none⟩)), (5, .pointer (some ⟨b5, 0, none⟩)), (6, .bool false), (7, .pointer (some ⟨b25, 0, none⟩)), (8, .int .i64 y18), (9, .int .i64 s34), (63, .bool false)] rfl ⟨rfl, rfl, rfl, rfl, rfl, rfl, rfl, rfl, trivial⟩ ?_
                refine WO_end ?_
                cases hx38
                refine WK.sub ?_ (WK.cls (fun _ h => h) hk39)
                exact ⟨rfl, rfl, rfl, rfl, rfl, rfl, rfl, rfl, trivial⟩
          · refine WK_cond (b := s31) rfl (fun hb65 => ?_) (fun hb65 => ?_)
            · have hx35 := ifT hb65 hx35
              refine WK_region ?_
              refine WO_pure tbok 1 [(3, .pointer (some ⟨b3, 0, none⟩)), (4, .pointer (some ⟨b4, 0, none⟩)), (5, .pointer (some ⟨b5, 0, none⟩)), (6, .bool false), (7, .pointer (some ⟨b25, 0, none⟩)), (8, .int .i64 y18), (9, .int .i64 4)] rfl ⟨rfl, rfl, rfl, rfl, rfl, rfl, rfl, trivial⟩ ?_
              refine WO_end ?_
              cases hx35
              refine WK.sub ?_ (WK.cls (fun _ h => h) hk36)
              exact ⟨rfl, rfl, rfl, rfl, rfl, rfl, rfl, trivial⟩
            · have hx35 := ifF hb65 hx35
              refine WK_skip ?_
              cases hx35
              refine WK.sub ?_ (WK.cls (fun _ h => h) hk36)
              exact ⟨rfl, rfl, rfl, rfl, rfl, rfl, rfl, trivial⟩
        · refine WK_region ?_
          refine WO_pure tbok 3 [(3, .pointer (some ⟨b3, 0, none⟩)), (4, .pointer (some ⟨b4, 0, none⟩)), (5, .pointer (some ⟨b5, 0, none⟩)), (6, .bool false), (7, .pointer (some ⟨b25, 0, none⟩)), (8, .int .i64 y18), (9, .int .i64 s28), (35, .bool (s28 == 0))] rfl ⟨rfl, rfl, rfl, rfl, rfl, rfl, rfl, rfl, trivial⟩ ?_
          refine WO_split (d := 35) (b := s28 == 0) rfl (fun hb66 => ?_) (fun hb66 => ?_)
          · have hx32 := ifT hb66 hx32
            refine WO_pure tbok 1 [(3, .pointer (some ⟨b3, 0, none⟩)), (4, .pointer (some ⟨b4, 0, none⟩)), (5, .pointer (some ⟨b5, 0, none⟩)), (6, .bool false), (7, .pointer (some ⟨b25, 0, none⟩)), (8, .int .i64 y18), (9, .int .i64 s28), (35, .bool true), (36, .pointer (some ⟨b3, 2, none⟩))] rfl ⟨rfl, rfl, rfl, rfl, rfl, rfl, rfl, rfl, rfl, trivial⟩ ?_
            refine WO_loadB tbok 0 rfl rfl rfl rfl (fun _ h => h) rfl rfl ?_
            refine WO_pure tbok 1 [(3, .pointer (some ⟨b3, 0, none⟩)), (4, .pointer (some ⟨b4, 0, none⟩)), (5, .pointer (some ⟨b5, 0, none⟩)), (6, .bool false), (7, .pointer (some ⟨b25, 0, none⟩)), (8, .int .i64 y18), (9, .int .i64 s28), (35, .bool true), (37, .int .i64 p0_2), (38, .pointer (some ⟨b4, 2, none⟩))] rfl ⟨rfl, rfl, rfl, rfl, rfl, rfl, rfl, rfl, rfl, rfl, trivial⟩ ?_
            refine WO_loadB tbok 1 rfl rfl rfl rfl (fun _ h => h) rfl rfl ?_
            refine WO_pure tbok 2 [(3, .pointer (some ⟨b3, 0, none⟩)), (4, .pointer (some ⟨b4, 0, none⟩)), (5, .pointer (some ⟨b5, 0, none⟩)), (6, .bool false), (7, .pointer (some ⟨b25, 0, none⟩)), (8, .int .i64 y18), (9, .int .i64 s28), (41, .bool (p0_2 != p1_2))] rfl ⟨rfl, rfl, rfl, rfl, rfl, rfl, rfl, rfl, trivial⟩ ?_
            refine WO_end ?_
            cases hx32
            refine WK.sub ?_ (WK.cls (fun _ h => h) hk33)
            exact ⟨rfl, rfl, rfl, rfl, rfl, rfl, rfl, rfl, trivial⟩
          · have hx32 := ifF hb66 hx32
            refine WO_pure tbok 6 [(3, .pointer (some ⟨b3, 0, none⟩)), (4, .pointer (some ⟨b4, 0, none⟩)), (5, .pointer (some ⟨b5, 0, none⟩)), (6, .bool false), (7, .pointer (some ⟨b25, 0, none⟩)), (8, .int .i64 y18), (9, .int .i64 s28), (41, .bool false)] rfl ⟨rfl, rfl, rfl, rfl, rfl, rfl, rfl, rfl, trivial⟩ ?_
            refine WO_end ?_
            cases hx32
            refine WK.sub ?_ (WK.cls (fun _ h => h) hk33)
            exact ⟨rfl, rfl, rfl, rfl, rfl, rfl, rfl, rfl, trivial⟩
      · refine WK_cond (b := y26 == 0) rfl (fun hb67 => ?_) (fun hb67 => ?_)
        · have hx29 := ifT hb67 hx29
          refine WK_region ?_
          refine WO_loadB tbok 1 rfl rfl rfl rfl (fun _ h => h) rfl rfl ?_
          obtain ⟨y68, hc69, hx29⟩ := bind_some hx29
          refine WO_call0 (.int .i64 y68) rfl rfl trivial rfl rfl rfl rfl St_closed ⟨15, #[], #[], rfl, callable_15, fun w hw => ⟨_, hw.sat, fiducialref13_Check_walk h_p1_3 hc69⟩⟩ ?_
          refine WO_pure tbok 1 [(3, .pointer (some ⟨b3, 0, none⟩)), (4, .pointer (some ⟨b4, 0, none⟩)), (5, .pointer (some ⟨b5, 0, none⟩)), (6, .bool false), (7, .pointer (some ⟨b25, 0, none⟩)), (8, .int .i64 y18), (9, .int .i64 y68)] rfl ⟨rfl, rfl, rfl, rfl, rfl, rfl, rfl, trivial⟩ ?_
          refine WO_end ?_
          cases hx29
          refine WK.sub ?_ (WK.cls (fun _ h => h) hk30)
          exact ⟨rfl, rfl, rfl, rfl, rfl, rfl, rfl, trivial⟩
        · have hx29 := ifF hb67 hx29
          refine WK_skip ?_
          cases hx29
          refine WK.sub ?_ (WK.cls (fun _ h => h) hk30)
          exact ⟨rfl, rfl, rfl, rfl, rfl, rfl, rfl, trivial⟩
theorem raster_Crop_c1_walk {m : Mu} {p0 : Int} {p1 : Int} {q0_0 : Int} {q0_1 : Int} {q0_2 : Int} {q0_3 : List Int} {q1_0 : Int} {q2_0 : Int} {a_q0_3 : Option Addr} {q_q0_3 c_q0_3 : Nat} {b_q0 : Nat} {b_q1 : Nat} {b_q2 : Nat} (hb_q0 : m b_q0 = some (Ent.obj ⟨b_q0, 24, [.int .i64 q0_0, .int .i64 q0_1, .int .i64 q0_2, .slice a_q0_3 q_q0_3 c_q0_3]⟩)) (h_q0_3 : SlR (FE (I1 .i64)) 1 m (.slice a_q0_3 q_q0_3 c_q0_3) q0_3) (hb_q1 : m b_q1 = some (Ent.obj ⟨b_q1, 3, [.int .i64 q1_0]⟩)) (hb_q2 : m b_q2 = some (Ent.obj ⟨b_q2, 3, [.int .i64 q2_0]⟩)) {r : Int} (hm : raster_Crop_c1 p0 p1 q0_0 q0_1 q0_2 q0_3 q1_0 q2_0 = some r) :
    Go.E.Spec Try.prog 63 [.int .i64 p0, .int .i64 p1, .pointer (some ⟨b_q0, 0, none⟩), .pointer (some ⟨b_q1, 0, none⟩), .pointer (some ⟨b_q2, 0, none⟩)] m (fun v _ _ => v = .int .i64 r) := by
  refine Spec_enter Try.func63 rfl rfl rfl (fun w0 => ?_)
  refine WK.sub (e' := [(0, .int .i64 p0), (1, .int .i64 p1), (2, .pointer (some ⟨b_q0, 0, none⟩)), (3, .pointer (some ⟨b_q1, 0, none⟩)), (4, .pointer (some ⟨b_q2, 0, none⟩))]) ⟨rfl, rfl, rfl, rfl, rfl, trivial⟩ ?_
  obtain rfl := SlR.qlen h_q0_3
  refine WK.sub (e' := [(0, .int .i64 p0), (1, .int .i64 p1), (2, .pointer (some ⟨b_q0, 0, none⟩)), (3, .pointer (some ⟨b_q1, 0, none⟩)), (4, .pointer (some ⟨b_q2, 0, none⟩))]) ⟨rfl, rfl, rfl, rfl, rfl, trivial⟩ ?_
  unfold raster_Crop_c1 at hm
  refine WK_seq ?_
  refine WK_region ?_
  refine WO_pure tbok 1 [(0, .int .i64 p0), (1, .int .i64 p1), (2, .pointer (some ⟨b_q0, 0, none⟩)), (3, .pointer (some ⟨b_q1, 0, none⟩)), (4, .pointer (some ⟨b_q2, 0, none⟩)), (7, .int .i64 0)] rfl ⟨rfl, rfl, rfl, rfl, rfl, rfl, trivial⟩ ?_
  refine WO_end ?_
  refine WK_seq ?_
  refine WK_region ?_
  refine WO_loadM tbok rfl rfl rfl rfl (fun _ h => St.sat h) hb_q0 rfl ?_
  refine WO_loadM tbok rfl rfl rfl rfl (fun _ h => St.sat h) hb_q1 rfl ?_
  refine WO_pure tbok 2 [(1, .int .i64 p1), (4, .pointer (some ⟨b_q2, 0, none⟩)), (7, .int .i64 0), (8, .agg #[.int .i64 q0_0, .int .i64 q0_1, .int .i64 q0_2, .slice a_q0_3 q0_3.length c_q0_3]), (11, .int .i64 (w64 (q1_0 + p0)))] rfl ⟨rfl, rfl, rfl, rfl, rfl, trivial⟩ ?_
  refine WO_loadM tbok rfl rfl rfl rfl (fun _ h => St.sat h) hb_q2 rfl ?_
  refine WO_pure tbok 2 [(7, .int .i64 0), (8, .agg #[.int .i64 q0_0, .int .i64 q0_1, .int .i64 q0_2, .slice a_q0_3 q0_3.length c_q0_3]), (11, .int .i64 (w64 (q1_0 + p0))), (14, .int .i64 (w64 (q2_0 + p1)))] rfl ⟨rfl, rfl, rfl, rfl, trivial⟩ ?_
  obtain ⟨y2, hc3, hm⟩ := bind_some hm
  refine WO_call0 (.int .i64 y2) rfl rfl trivial rfl rfl rfl rfl St_closed ⟨50, #[], #[], rfl, callable_50, fun w hw => ⟨_, hw.sat, raster_at_walk h_q0_3 hc3⟩⟩ ?_
  refine WO_pure tbok 1 [(7, .int .i64 y2)] rfl ⟨rfl, trivial⟩ ?_
  refine WO_end ?_
  cases hm
  exact WK_ret (ret_out (L := []) (RLc_tmp rfl RLc_nil) (List.nil_sublist _) rfl)
def raster_Crop_Q (r : Int × Int × Int × List Int × Int) : Value → List Ent → Prop := fun v L => ∃ (a0 : Option Addr) (q0 c0 : Nat), v = .tuple #[.agg #[.int .i64 r.1, .int .i64 r.2.1, .int .i64 r.2.2.1, .slice a0 q0 c0], .int .i64 r.2.2.2.2] ∧ OwnE 3 1 (I1 .i64) (.slice a0 q0 c0) r.2.2.2.1 L
theorem raster_Crop_walk {m : Mu} {p0_0 : Int} {p0_1 : Int} {p0_2 : Int} {p0_3 : List Int} {p1 : Int} {p2 : Int} {p3 : Int} {p4 : Int} {a_p0_3 : Option Addr} {q_p0_3 c_p0_3 : Nat} (h_p0_3 : SlR (FE (I1 .i64)) 1 m (.slice a_p0_3 q_p0_3 c_p0_3) p0_3) {r : Int × Int × Int × List Int × Int} (hm : raster_Crop p0_0 p0_1 p0_2 p0_3 p1 p2 p3 p4 = some r) :
    Go.E.Spec Try.prog 39 [.agg #[.int .i64 p0_0, .int .i64 p0_1, .int .i64 p0_2, .slice a_p0_3 q_p0_3 c_p0_3], .int .i64 p1, .int .i64 p2, .int .i64 p3, .int .i64 p4] m (fun v _ L => raster_Crop_Q r v L) := by
  refine Spec_enter Try.func39 rfl rfl rfl (fun w0 => ?_)
  refine WK.sub (e' := [(0, .agg #[.int .i64 p0_0, .int .i64 p0_1, .int .i64 p0_2, .slice a_p0_3 q_p0_3 c_p0_3]), (1, .int .i64 p1), (2, .int .i64 p2), (3, .int .i64 p3), (4, .int .i64 p4)]) ⟨rfl, rfl, rfl, rfl, rfl, trivial⟩ ?_
  obtain rfl := SlR.qlen h_p0_3
  refine WK.sub (e' := [(0, .agg #[.int .i64 p0_0, .int .i64 p0_1, .int .i64 p0_2, .slice a_p0_3 p0_3.length c_p0_3]), (1, .int .i64 p1), (2, .int .i64 p2), (3, .int .i64 p3), (4, .int .i64 p4)]) ⟨rfl, rfl, rfl, rfl, rfl, trivial⟩ ?_
  unfold raster_Crop at hm
  refine WK_seq ?_
  refine WK_region ?_
  refine WO_box [.int .i64 p0_0, .int .i64 p0_1, .int .i64 p0_2, .slice a_p0_3 p0_3.length c_p0_3] rfl rfl trivial rfl rfl rfl (fun b2 => ?_)
  refine WO.cls (C' := St w0 m m [[⟨b2, 24, [.int .i64 p0_0, .int .i64 p0_1, .int .i64 p0_2, .slice a_p0_3 p0_3.length c_p0_3]⟩]]) (fun _ h => h) ?_
  refine WO_box [.int .i64 p1] rfl rfl trivial rfl rfl rfl (fun b3 => ?_)
  refine WO.cls (C' := St w0 m m [[⟨b2, 24, [.int .i64 p0_0, .int .i64 p0_1, .int .i64 p0_2, .slice a_p0_3 p0_3.length c_p0_3]⟩], [⟨b3, 3, [.int .i64 p1]⟩]]) (fun _ h => h) ?_
  refine WO_box [.int .i64 p2] rfl rfl trivial rfl rfl rfl (fun b4 => ?_)
  refine WO.cls (C' := St w0 m m [[⟨b2, 24, [.int .i64 p0_0, .int .i64 p0_1, .int .i64 p0_2, .slice a_p0_3 p0_3.length c_p0_3]⟩], [⟨b3, 3, [.int .i64 p1]⟩], [⟨b4, 3, [.int .i64 p2]⟩]]) (fun _ h => h) ?_
  refine WO_alloc tbok [.int .i64 0, .int .i64 0, .int .i64 0, .slice none 0 0] rfl rfl trivial rfl rfl rfl rfl (fun b5 => ?_)
  refine WO.cls (C' := St w0 m m [[⟨b2, 24, [.int .i64 p0_0, .int .i64 p0_1, .int .i64 p0_2, .slice a_p0_3 p0_3.length c_p0_3]⟩], [⟨b3, 3, [.int .i64 p1]⟩], [⟨b4, 3, [.int .i64 p2]⟩], [⟨b5, 24, [.int .i64 0, .int .i64 0, .int .i64 0, .slice none 0 0]⟩]]) (fun _ h => h) ?_
  refine WO_pure tbok 1 [(3, .int .i64 p3), (4, .int .i64 p4), (5, .pointer (some ⟨b2, 0, none⟩)), (6, .pointer (some ⟨b3, 0, none⟩)), (7, .pointer (some ⟨b4, 0, none⟩)), (10, .pointer (some ⟨b5, 0, none⟩)), (11, .int .i64 0)] rfl ⟨rfl, rfl, rfl, rfl, rfl, rfl, rfl, trivial⟩ ?_
  refine WO_end ?_
  refine WK_seq ?_
  refine WK_seq ?_
  refine WK_region ?_
  refine WO_loadB tbok 0 rfl rfl rfl rfl (fun _ h => h) rfl rfl ?_
  obtain ⟨y6, hc7, hm⟩ := bind_some hm
  refine WO_call0 (.int .i64 y6) rfl rfl trivial rfl rfl rfl rfl St_closed ⟨20, #[], #[], rfl, callable_20, fun w hw => ⟨_, hw.sat, raster_Check_walk h_p0_3 hc7⟩⟩ ?_
  refine WO_pure tbok 1 [(3, .int .i64 p3), (4, .int .i64 p4), (5, .pointer (some ⟨b2, 0, none⟩)), (6, .pointer (some ⟨b3, 0, none⟩)), (7, .pointer (some ⟨b4, 0, none⟩)), (10, .pointer (some ⟨b5, 0, none⟩)), (11, .int .i64 0), (12, .int .i64 y6)] rfl ⟨rfl, rfl, rfl, rfl, rfl, rfl, rfl, rfl, trivial⟩ ?_
  refine WO_end ?_
  refine WK_seq ?_
  refine WK_region ?_
  refine WO_pure tbok 2 [(3, .int .i64 p3), (4, .int .i64 p4), (5, .pointer (some ⟨b2, 0, none⟩)), (6, .pointer (some ⟨b3, 0, none⟩)), (7, .pointer (some ⟨b4, 0, none⟩)), (10, .pointer (some ⟨b5, 0, none⟩)), (11, .int .i64 0), (12, .int .i64 y6), (16, .bool (y6 != 0))] rfl ⟨rfl, rfl, rfl, rfl, rfl, rfl, rfl, rfl, rfl, trivial⟩ ?_
  refine WO_end ?_
  refine WK_cond (b := y6 != 0) rfl (fun hb8 => ?_) (fun hb8 => ?_)
  · have hm := ifT hb8 hm
    refine WK_seq ?_
    refine WK_region ?_
    refine WO_pure tbok 2 [(3, .int .i64 p3), (4, .int .i64 p4), (5, .pointer (some ⟨b2, 0, none⟩)), (6, .pointer (some ⟨b3, 0, none⟩)), (7, .pointer (some ⟨b4, 0, none⟩)), (10, .pointer (some ⟨b5, 0, none⟩)), (11, .int .i64 0), (17, .agg #[.int .i64 0, .int .i64 0, .int .i64 0, .slice none 0 0]), (18, .int .i64 y6)] rfl ⟨rfl, rfl, rfl, rfl, rfl, rfl, rfl, rfl, rfl, trivial⟩ ?_
    refine WO_storeB tbok 3 [.int .i64 0, .int .i64 0, .int .i64 0, .slice none 0 0] rfl rfl rfl rfl rfl rfl rfl ?_
    refine WO.cls (C' := St w0 m m [[⟨b2, 24, [.int .i64 p0_0, .int .i64 p0_1, .int .i64 p0_2, .slice a_p0_3 p0_3.length c_p0_3]⟩], [⟨b3, 3, [.int .i64 p1]⟩], [⟨b4, 3, [.int .i64 p2]⟩], [⟨b5, 24, [.int .i64 0, .int .i64 0, .int .i64 0, .slice none 0 0]⟩]]) (fun _ h => h) ?_
    refine WO_pure tbok 1 [(3, .int .i64 p3), (4, .int .i64 p4), (5, .pointer (some ⟨b2, 0, none⟩)), (6, .pointer (some ⟨b3, 0, none⟩)), (7, .pointer (some ⟨b4, 0, none⟩)), (10, .pointer (some ⟨b5, 0, none⟩)), (11, .int .i64 y6)] rfl ⟨rfl, rfl, rfl, rfl, rfl, rfl, rfl, trivial⟩ ?_
    refine WO_end ?_
    cases hm
    exact WK_ret (ret_out (L := []) (RLc_cell tbok 3 rfl rfl rfl (RLc_tmp rfl RLc_nil)) (List.nil_sublist _) ⟨none, 0, 0, rfl, (OwnE.nil none)⟩)
  · have hm := ifF hb8 hm
    refine WK_skip ?_
    refine WK_seq ?_
    refine WK_seq ?_
    obtain ⟨s9, hx10, hm⟩ := bind_some hm
    refine WK_meet [(3, .int .i64 p3), (4, .int .i64 p4), (5, .pointer (some ⟨b2, 0, none⟩)), (6, .pointer (some ⟨b3, 0, none⟩)), (7, .pointer (some ⟨b4, 0, none⟩)), (10, .pointer (some ⟨b5, 0, none⟩)), (11, .int .i64 0), (47, .bool s9)] (St w0 m m [[⟨b2, 24, [.int .i64 p0_0, .int .i64 p0_1, .int .i64 p0_2, .slice a_p0_3 p0_3.length c_p0_3]⟩], [⟨b3, 3, [.int .i64 p1]⟩], [⟨b4, 3, [.int .i64 p2]⟩], [⟨b5, 24, [.int .i64 0, .int .i64 0, .int .i64 0, .slice none 0 0]⟩]]) ?_ (fun hk11 => ?_)
    · refine WK_cond (b := s9) rfl (fun hb12 => ?_) (fun hb12 => ?_)
      · have hm := ifT hb12 hm
        refine WK_seq ?_
        refine WK_region ?_
        refine WO_pure tbok 1 [(3, .int .i64 p3), (4, .int .i64 p4), (5, .pointer (some ⟨b2, 0, none⟩)), (6, .pointer (some ⟨b3, 0, none⟩)), (7, .pointer (some ⟨b4, 0, none⟩)), (10, .pointer (some ⟨b5, 0, none⟩)), (11, .int .i64 0), (48, .agg #[.int .i64 0, .int .i64 0, .int .i64 0, .slice none 0 0])] rfl ⟨rfl, rfl, rfl, rfl, rfl, rfl, rfl, rfl, trivial⟩ ?_
        refine WO_storeB tbok 3 [.int .i64 0, .int .i64 0, .int .i64 0, .slice none 0 0] rfl rfl rfl rfl rfl rfl rfl ?_
        refine WO.cls (C' := St w0 m m [[⟨b2, 24, [.int .i64 p0_0, .int .i64 p0_1, .int .i64 p0_2, .slice a_p0_3 p0_3.length c_p0_3]⟩], [⟨b3, 3, [.int .i64 p1]⟩], [⟨b4, 3, [.int .i64 p2]⟩], [⟨b5, 24, [.int .i64 0, .int .i64 0, .int .i64 0, .slice none 0 0]⟩]]) (fun _ h => h) ?_
        refine WO_pure tbok 1 [(3, .int .i64 p3), (4, .int .i64 p4), (5, .pointer (some ⟨b2, 0, none⟩)), (6, .pointer (some ⟨b3, 0, none⟩)), (7, .pointer (some ⟨b4, 0, none⟩)), (10, .pointer (some ⟨b5, 0, none⟩)), (11, .int .i64 2)] rfl ⟨rfl, rfl, rfl, rfl, rfl, rfl, rfl, trivial⟩ ?_
        refine WO_end ?_
        cases hm
        exact WK_ret (ret_out (L := []) (RLc_cell tbok 3 rfl rfl rfl (RLc_tmp rfl RLc_nil)) (List.nil_sublist _) ⟨none, 0, 0, rfl, (OwnE.nil none)⟩)
      · have hm := ifF hb12 hm
        refine WK_skip ?_
        refine WK_seq ?_
        refine WK_region ?_
        refine WO_pure tbok 3 [(5, .pointer (some ⟨b2, 0, none⟩)), (6, .pointer (some ⟨b3, 0, none⟩)), (7, .pointer (some ⟨b4, 0, none⟩)), (10, .pointer (some ⟨b5, 0, none⟩)), (11, .int .i64 0), (49, .int .i64 p3), (50, .int .i64 p4), (51, .pointer (some ⟨b2, 2, none⟩))] rfl ⟨rfl, rfl, rfl, rfl, rfl, rfl, rfl, rfl, trivial⟩ ?_
        refine WO_loadB tbok 0 rfl rfl rfl rfl (fun _ h => h) rfl rfl ?_
        refine WO_pure tbok 1 [(10, .pointer (some ⟨b5, 0, none⟩)), (11, .int .i64 0), (49, .int .i64 p3), (50, .int .i64 p4), (52, .int .i64 p0_2), (53, .func (.func 63) #[] #[.pointer (some ⟨b2, 0, none⟩), .pointer (some ⟨b3, 0, none⟩), .pointer (some ⟨b4, 0, none⟩)])] rfl ⟨rfl, rfl, rfl, rfl, rfl, rfl, trivial⟩ ?_
        obtain ⟨⟨y15, y16, y17, y18⟩, hc19, hm⟩ := bind_some hm
        refine WO_call1 (raster_made_Q (y15, y16, y17, y18)) rfl rfl trivial rfl rfl rfl rfl ⟨48, #[], #[], rfl, callable_48, fun w hw => ⟨_, hw.satV, raster_made_walk (fun z13 z14 _ h => specV_cap callable_63 (raster_Crop_c1_walk (hw.memV (i := 0) rfl (List.mem_singleton.2 rfl)) (h_p0_3.mono (mono_FE _) hw.leV) (hw.memV (i := 1) rfl (List.mem_singleton.2 rfl)) (hw.memV (i := 2) rfl (List.mem_singleton.2 rfl)) h)) hc19⟩⟩ (fun v24 L23 hq => ?_)
        obtain ⟨a20, qa20, c21, rfl, hL23⟩ := hq
        obtain rfl := OwnE.qlen hL23
        refine WO.cls (C' := St w0 m m [[⟨b2, 24, [.int .i64 p0_0, .int .i64 p0_1, .int .i64 p0_2, .slice a_p0_3 p0_3.length c_p0_3]⟩], [⟨b3, 3, [.int .i64 p1]⟩], [⟨b4, 3, [.int .i64 p2]⟩], [⟨b5, 24, [.int .i64 0, .int .i64 0, .int .i64 0, .slice none 0 0]⟩], L23]) (fun _ h => h) ?_
        refine WO_storeB tbok 3 [.int .i64 y15, .int .i64 y16, .int .i64 y17, .slice a20 ((y18).length) c21] rfl rfl rfl rfl rfl rfl rfl ?_
        refine WO.cls (C' := St w0 m m [[⟨b2, 24, [.int .i64 p0_0, .int .i64 p0_1, .int .i64 p0_2, .slice a_p0_3 p0_3.length c_p0_3]⟩], [⟨b3, 3, [.int .i64 p1]⟩], [⟨b4, 3, [.int .i64 p2]⟩], [⟨b5, 24, [.int .i64 y15, .int .i64 y16, .int .i64 y17, .slice a20 ((y18).length) c21]⟩], L23]) (fun _ h => h) ?_
        refine WO_pure tbok 1 [(10, .pointer (some ⟨b5, 0, none⟩)), (11, .int .i64 0)] rfl ⟨rfl, rfl, trivial⟩ ?_
        refine WO_end ?_
        cases hm
        exact WK_ret (ret_out (L := L23) (RLc_cell tbok 3 rfl rfl rfl (RLc_tmp rfl RLc_nil)) (seg_sub 4 rfl) ⟨a20, ((y18).length), c21, rfl, hL23⟩)
    · refine WK_region ?_
      refine WO_loadB tbok 0 rfl rfl rfl rfl (fun _ h => h) rfl rfl ?_
      refine WO_loadB tbok 1 rfl rfl rfl rfl (fun _ h => h) rfl rfl ?_
      refine WO_loadB tbok 2 rfl rfl rfl rfl (fun _ h => h) rfl rfl ?_
      obtain ⟨y25, hc26, hx10⟩ := bind_some hx10
      refine WO_call0 (.bool y25) rfl rfl trivial rfl rfl rfl rfl St_closed ⟨62, #[], #[], rfl, callable_62, fun w hw => ⟨_, hw.sat, raster_has_walk h_p0_3 hc26⟩⟩ ?_
      refine WO_pure tbok 2 [(3, .int .i64 p3), (4, .int .i64 p4), (5, .pointer (some ⟨b2, 0, none⟩)), (6, .pointer (some ⟨b3, 0, none⟩)), (7, .pointer (some ⟨b4, 0, none⟩)), (10, .pointer (some ⟨b5, 0, none⟩)), (11, .int .i64 0), (24, .bool (!y25))] rfl ⟨rfl, rfl, rfl, rfl, rfl, rfl, rfl, rfl, trivial⟩ ?_
      refine WO_split (d := 24) (b := !y25) rfl (fun hb27 => ?_) (fun hb27 => ?_)
      · have hx10 := ifT hb27 hx10
        refine WO_pure tbok 23 [(3, .int .i64 p3), (4, .int .i64 p4), (5, .pointer (some ⟨b2, 0, none⟩)), (6, .pointer (some ⟨b3, 0, none⟩)), (7, .pointer (some ⟨b4, 0, none⟩)), (10, .pointer (some ⟨b5, 0, none⟩)), (11, .int .i64 0), (47, .bool true)] rfl ⟨rfl, rfl, rfl, rfl, rfl, rfl, rfl, rfl, trivial⟩ ?_
        refine WO_end ?_
        cases hx10
        refine WK.sub ?_ (WK.cls (fun _ h => h) hk11)
        exact ⟨rfl, rfl, rfl, rfl, rfl, rfl, rfl, rfl, trivial⟩
      · have hx10 := ifF hb27 hx10
        refine WO_pure tbok 4 [(3, .int .i64 p3), (4, .int .i64 p4), (5, .pointer (some ⟨b2, 0, none⟩)), (6, .pointer (some ⟨b3, 0, none⟩)), (7, .pointer (some ⟨b4, 0, none⟩)), (10, .pointer (some ⟨b5, 0, none⟩)), (11, .int .i64 0), (28, .bool (decide (p3 < 1)))] rfl ⟨rfl, rfl, rfl, rfl, rfl, rfl, rfl, rfl, trivial⟩ ?_
        refine WO_split (d := 28) (b := decide (p3 < 1)) rfl (fun hb28 => ?_) (fun hb28 => ?_)
        · have hx10 := ifT hb28 hx10
          refine WO_pure tbok 19 [(3, .int .i64 p3), (4, .int .i64 p4), (5, .pointer (some ⟨b2, 0, none⟩)), (6, .pointer (some ⟨b3, 0, none⟩)), (7, .pointer (some ⟨b4, 0, none⟩)), (10, .pointer (some ⟨b5, 0, none⟩)), (11, .int .i64 0), (47, .bool true)] rfl ⟨rfl, rfl, rfl, rfl, rfl, rfl, rfl, rfl, trivial⟩ ?_
          refine WO_end ?_
          cases hx10
          refine WK.sub ?_ (WK.cls (fun _ h => h) hk11)
          exact ⟨rfl, rfl, rfl, rfl, rfl, rfl, rfl, rfl, trivial⟩
        · have hx10 := ifF hb28 hx10
          refine WO_pure tbok 4 [(3, .int .i64 p3), (4, .int .i64 p4), (5, .pointer (some ⟨b2, 0, none⟩)), (6, .pointer (some ⟨b3, 0, none⟩)), (7, .pointer (some ⟨b4, 0, none⟩)), (10, .pointer (some ⟨b5, 0, none⟩)), (11, .int .i64 0), (32, .bool (decide (p4 < 1)))] rfl ⟨rfl, rfl, rfl, rfl, rfl, rfl, rfl, rfl, trivial⟩ ?_
          refine WO_split (d := 32) (b := decide (p4 < 1)) rfl (fun hb29 => ?_) (fun hb29 => ?_)
          · have hx10 := ifT hb29 hx10
            refine WO_pure tbok 15 [(3, .int .i64 p3), (4, .int .i64 p4), (5, .pointer (some ⟨b2, 0, none⟩)), (6, .pointer (some ⟨b3, 0, none⟩)), (7, .pointer (some ⟨b4, 0, none⟩)), (10, .pointer (some ⟨b5, 0, none⟩)), (11, .int .i64 0), (47, .bool true)] rfl ⟨rfl, rfl, rfl, rfl, rfl, rfl, rfl, rfl, trivial⟩ ?_
            refine WO_end ?_
            cases hx10
            refine WK.sub ?_ (WK.cls (fun _ h => h) hk11)
            exact ⟨rfl, rfl, rfl, rfl, rfl, rfl, rfl, rfl, trivial⟩
          · have hx10 := ifF hb29 hx10
            refine WO_pure tbok 2 [(3, .int .i64 p3), (4, .int .i64 p4), (5, .pointer (some ⟨b2, 0, none⟩)), (6, .pointer (some ⟨b3, 0, none⟩)), (7, .pointer (some ⟨b4, 0, none⟩)), (10, .pointer (some ⟨b5, 0, none⟩)), (11, .int .i64 0), (32, .bool false), (33, .int .i64 p3), (34, .pointer (some ⟨b2, 0, none⟩))] rfl ⟨rfl, rfl, rfl, rfl, rfl, rfl, rfl, rfl, rfl, rfl, trivial⟩ ?_
            refine WO_loadB tbok 0 rfl rfl rfl rfl (fun _ h => h) rfl rfl ?_
            refine WO_loadB tbok 1 rfl rfl rfl rfl (fun _ h => h) rfl rfl ?_
            refine WO_pure tbok 4 [(3, .int .i64 p3), (4, .int .i64 p4), (5, .pointer (some ⟨b2, 0, none⟩)), (6, .pointer (some ⟨b3, 0, none⟩)), (7, .pointer (some ⟨b4, 0, none⟩)), (10, .pointer (some ⟨b5, 0, none⟩)), (11, .int .i64 0), (40, .bool (decide ((w64 (p0_0 - p1)) < p3)))] rfl ⟨rfl, rfl, rfl, rfl, rfl, rfl, rfl, rfl, trivial⟩ ?_
            refine WO_split (d := 40) (b := decide ((w64 (p0_0 - p1)) < p3)) rfl (fun hb30 => ?_) (fun hb30 => ?_)
            · have hx10 := ifT hb30 hx10
              refine WO_pure tbok 7 [(3, .int .i64 p3), (4, .int .i64 p4), (5, .pointer (some ⟨b2, 0, none⟩)), (6, .pointer (some ⟨b3, 0, none⟩)), (7, .pointer (some ⟨b4, 0, none⟩)), (10, .pointer (some ⟨b5, 0, none⟩)), (11, .int .i64 0), (47, .bool true)] rfl ⟨rfl, rfl, rfl, rfl, rfl, rfl, rfl, rfl, trivial⟩ ?_
              refine WO_end ?_
              cases hx10
              refine WK.sub ?_ (WK.cls (fun _ h => h) hk11)
              exact ⟨rfl, rfl, rfl, rfl, rfl, rfl, rfl, rfl, trivial⟩
            · have hx10 := ifF hb30 hx10
              refine WO_pure tbok 2 [(3, .int .i64 p3), (4, .int .i64 p4), (5, .pointer (some ⟨b2, 0, none⟩)), (6, .pointer (some ⟨b3, 0, none⟩)), (7, .pointer (some ⟨b4, 0, none⟩)), (10, .pointer (some ⟨b5, 0, none⟩)), (11, .int .i64 0), (40, .bool false), (41, .int .i64 p4), (42, .pointer (some ⟨b2, 1, none⟩))] rfl ⟨rfl, rfl, rfl, rfl, rfl, rfl, rfl, rfl, rfl, rfl, trivial⟩ ?_
              refine WO_loadB tbok 0 rfl rfl rfl rfl (fun _ h => h) rfl rfl ?_
              refine WO_loadB tbok 2 rfl rfl rfl rfl (fun _ h => h) rfl rfl ?_
              refine WO_pure tbok 3 [(3, .int .i64 p3), (4, .int .i64 p4), (5, .pointer (some ⟨b2, 0, none⟩)), (6, .pointer (some ⟨b3, 0, none⟩)), (7, .pointer (some ⟨b4, 0, none⟩)), (10, .pointer (some ⟨b5, 0, none⟩)), (11, .int .i64 0), (47, .bool (decide ((w64 (p0_1 - p2)) < p4)))] rfl ⟨rfl, rfl, rfl, rfl, rfl, rfl, rfl, rfl, trivial⟩ ?_
              refine WO_end ?_
              cases hx10
              refine WK.sub ?_ (WK.cls (fun _ h => h) hk11)
              exact ⟨rfl, rfl, rfl, rfl, rfl, rfl, rfl, rfl, trivial⟩
def fiducialref13_Crop_Q (r : Int × Int × Int × List Int) : Value → List Ent → Prop := fun v L => ∃ (a0 : Option Addr) (q0 c0 : Nat), v = .agg #[.int .i64 r.1, .int .i64 r.2.1, .int .i64 r.2.2.1, .slice a0 q0 c0] ∧ OwnE 3 1 (I1 .i64) (.slice a0 q0 c0) r.2.2.2 L
theorem fiducialref13_Crop_walk {m : Mu} {p0_0 : Int} {p0_1 : Int} {p0_2 : Int} {p0_3 : List Int} {p1 : Int} {p2 : Int} {p3 : Int} {p4 : Int} {a_p0_3 : Option Addr} {q_p0_3 c_p0_3 : Nat} (h_p0_3 : SlR (FE (I1 .i64)) 1 m (.slice a_p0_3 q_p0_3 c_p0_3) p0_3) {r : Int × Int × Int × List Int} (hm : fiducialref13_Crop p0_0 p0_1 p0_2 p0_3 p1 p2 p3 p4 = some r) :
    Go.E.Spec Try.prog 40 [.agg #[.int .i64 p0_0, .int .i64 p0_1, .int .i64 p0_2, .slice a_p0_3 q_p0_3 c_p0_3], .int .i64 p1, .int .i64 p2, .int .i64 p3, .int .i64 p4] m (fun v _ L => fiducialref13_Crop_Q r v L) := by
  refine Spec_enter Try.func40 rfl rfl rfl (fun w0 => ?_)
  refine WK.sub (e' := [(0, .agg #[.int .i64 p0_0, .int .i64 p0_1, .int .i64 p0_2, .slice a_p0_3 q_p0_3 c_p0_3]), (1, .int .i64 p1), (2, .int .i64 p2), (3, .int .i64 p3), (4, .int .i64 p4)]) ⟨rfl, rfl, rfl, rfl, rfl, trivial⟩ ?_
  obtain rfl := SlR.qlen h_p0_3
  refine WK.sub (e' := [(0, .agg #[.int .i64 p0_0, .int .i64 p0_1, .int .i64 p0_2, .slice a_p0_3 p0_3.length c_p0_3]), (1, .int .i64 p1), (2, .int .i64 p2), (3, .int .i64 p3), (4, .int .i64 p4)]) ⟨rfl, rfl, rfl, rfl, rfl, trivial⟩ ?_
  unfold fiducialref13_Crop at hm
  refine WK_seq ?_
  refine WK_region ?_
  refine WO_box [.int .i64 p0_0, .int .i64 p0_1, .int .i64 p0_2, .slice a_p0_3 p0_3.length c_p0_3] rfl rfl trivial rfl rfl rfl (fun b2 => ?_)
  refine WO.cls (C' := St w0 m m [[⟨b2, 24, [.int .i64 p0_0, .int .i64 p0_1, .int .i64 p0_2, .slice a_p0_3 p0_3.length c_p0_3]⟩]]) (fun _ h => h) ?_
  refine WO_alloc tbok [.int .i64 0, .int .i64 0, .int .i64 0, .slice none 0 0] rfl rfl trivial rfl rfl rfl rfl (fun b3 => ?_)
  refine WO.cls (C' := St w0 m m [[⟨b2, 24, [.int .i64 p0_0, .int .i64 p0_1, .int .i64 p0_2, .slice a_p0_3 p0_3.length c_p0_3]⟩], [⟨b3, 24, [.int .i64 0, .int .i64 0, .int .i64 0, .slice none 0 0]⟩]]) (fun _ h => h) ?_
  refine WO_end ?_
  refine WK_seq ?_
  refine WK_region ?_
  refine WO_pure tbok 3 [(1, .int .i64 p1), (2, .int .i64 p2), (3, .int .i64 p3), (4, .int .i64 p4), (5, .pointer (some ⟨b2, 0, none⟩)), (10, .pointer (some ⟨b3, 0, none⟩)), (14, .int .i64 p3), (15, .int .i64 p4), (16, .pointer (some ⟨b2, 2, none⟩))] rfl ⟨rfl, rfl, rfl, rfl, rfl, rfl, rfl, rfl, rfl, trivial⟩ ?_
  refine WO_loadB tbok 0 rfl rfl rfl rfl (fun _ h => h) rfl rfl ?_
  obtain ⟨⟨y4, y5, y6, y7⟩, hc8, hm⟩ := bind_some hm
  refine WO_call1 (fiducialref13_New_Q (y4, y5, y6, y7)) rfl rfl trivial rfl rfl rfl rfl ⟨24, #[], #[], rfl, callable_24, fun w hw => ⟨_, hw.sat, fiducialref13_New_walk hc8⟩⟩ (fun v13 L12 hq => ?_)
  obtain ⟨a9, qa9, c10, rfl, hL12⟩ := hq
  obtain rfl := OwnE.qlen hL12
  refine WO.cls (C' := St w0 m m [[⟨b2, 24, [.int .i64 p0_0, .int .i64 p0_1, .int .i64 p0_2, .slice a_p0_3 p0_3.length c_p0_3]⟩], [⟨b3, 24, [.int .i64 0, .int .i64 0, .int .i64 0, .slice none 0 0]⟩], L12]) (fun _ h => h) ?_
  refine WO_alloc tbok [.int .i64 0, .int .i64 0, .int .i64 0, .slice none 0 0] rfl rfl trivial rfl rfl rfl rfl (fun b14 => ?_)
  refine WO.cls (C' := St w0 m m [[⟨b2, 24, [.int .i64 p0_0, .int .i64 p0_1, .int .i64 p0_2, .slice a_p0_3 p0_3.length c_p0_3]⟩], [⟨b3, 24, [.int .i64 0, .int .i64 0, .int .i64 0, .slice none 0 0]⟩], L12, [⟨b14, 24, [.int .i64 0, .int .i64 0, .int .i64 0, .slice none 0 0]⟩]]) (fun _ h => h) ?_
  refine WO_storeB tbok 3 [.int .i64 y4, .int .i64 y5, .int .i64 y6, .slice a9 ((y7).length) c10] rfl rfl rfl rfl rfl rfl rfl ?_
  refine WO.cls (C' := St w0 m m [[⟨b2, 24, [.int .i64 p0_0, .int .i64 p0_1, .int .i64 p0_2, .slice a_p0_3 p0_3.length c_p0_3]⟩], [⟨b3, 24, [.int .i64 0, .int .i64 0, .int .i64 0, .slice none 0 0]⟩], L12, [⟨b14, 24, [.int .i64 y4, .int .i64 y5, .int .i64 y6, .slice a9 ((y7).length) c10]⟩]]) (fun _ h => h) ?_
  refine WO_end ?_
  refine WK_seq ?_
  refine WK_seq ?_
  refine WK_region ?_
  refine WO_pure tbok 1 [(1, .int .i64 p1), (2, .int .i64 p2), (3, .int .i64 p3), (4, .int .i64 p4), (5, .pointer (some ⟨b2, 0, none⟩)), (10, .pointer (some ⟨b3, 0, none⟩)), (11, .pointer (some ⟨b14, 0, none⟩)), (12, .int .i64 0)] rfl ⟨rfl, rfl, rfl, rfl, rfl, rfl, rfl, rfl, trivial⟩ ?_
  refine WO_end ?_
  obtain ⟨x22, hx23, hm⟩ := bind_some hm
  refine WK_join (β := (List Int) × (List Ent)) (fun p => p.1 = x22 ∧ OwnE 3 1 (I1 .i64) (.slice a9 ((y7).length) c10) p.1 p.2) (fun p => [(10, .pointer (some ⟨b3, 0, none⟩)), (11, .pointer (some ⟨b14, 0, none⟩))]) (fun p => St w0 m m [[⟨b2, 24, [.int .i64 p0_0, .int .i64 p0_1, .int .i64 p0_2, .slice a_p0_3 p0_3.length c_p0_3]⟩], [⟨b3, 24, [.int .i64 0, .int .i64 0, .int .i64 0, .slice none 0 0]⟩], p.2, [⟨b14, 24, [.int .i64 y4, .int .i64 y5, .int .i64 y6, .slice a9 ((y7).length) c10]⟩]]) ?_ (fun hk24 => ?_)
  · rintro ⟨l19, L21⟩ ⟨hq30, hL21⟩
    subst hq30
    refine WK.sub (e' := [(10, .pointer (some ⟨b3, 0, none⟩)), (11, .pointer (some ⟨b14, 0, none⟩))]) ⟨rfl, rfl, trivial⟩ (WK.cls (C' := St w0 m m [[⟨b2, 24, [.int .i64 p0_0, .int .i64 p0_1, .int .i64 p0_2, .slice a_p0_3 p0_3.length c_p0_3]⟩], [⟨b3, 24, [.int .i64 0, .int .i64 0, .int .i64 0, .slice none 0 0]⟩], L21, [⟨b14, 24, [.int .i64 y4, .int .i64 y5, .int .i64 y6, .slice a9 ((y7).length) c10]⟩]]) (fun _ h => h) ?_)
    refine WK_seq ?_
    refine WK_region ?_
    refine WO_loadB tbok 3 rfl rfl rfl rfl (fun _ h => h) rfl rfl ?_
    refine WO_storeB tbok 1 [.int .i64 y4, .int .i64 y5, .int .i64 y6, .slice a9 ((y7).length) c10] rfl rfl rfl rfl rfl rfl rfl ?_
    refine WO.cls (C' := St w0 m m [[⟨b2, 24, [.int .i64 p0_0, .int .i64 p0_1, .int .i64 p0_2, .slice a_p0_3 p0_3.length c_p0_3]⟩], [⟨b3, 24, [.int .i64 y4, .int .i64 y5, .int .i64 y6, .slice a9 ((y7).length) c10]⟩], L21, [⟨b14, 24, [.int .i64 y4, .int .i64 y5, .int .i64 y6, .slice a9 ((y7).length) c10]⟩]]) (fun _ h => h) ?_
    refine WO_end ?_
    cases hm
    exact WK_ret (ret_out (L := L21) (RLc_cell tbok 1 rfl rfl rfl RLc_nil) (seg_sub 2 rfl) ⟨a9, ((y7).length), c10, rfl, hL21⟩)
  · refine WK_block ?_
    refine WK_loop (S := List Int × Int) (G := List Ent) (fun s => fiducialref13_Crop_s1 p0_0 p0_1 p0_2 p0_3 p1 p2 p3 p4 s.1 s.2) (fun s g => [(1, .int .i64 p1), (2, .int .i64 p2), (3, .int .i64 p3), (4, .int .i64 p4), (5, .pointer (some ⟨b2, 0, none⟩)), (10, .pointer (some ⟨b3, 0, none⟩)), (11, .pointer (some ⟨b14, 0, none⟩)), (12, .int .i64 s.2)]) (fun s g => St w0 m m [[⟨b2, 24, [.int .i64 p0_0, .int .i64 p0_1, .int .i64 p0_2, .slice a_p0_3 p0_3.length c_p0_3]⟩], [⟨b3, 24, [.int .i64 0, .int .i64 0, .int .i64 0, .slice none 0 0]⟩], g, [⟨b14, 24, [.int .i64 y4, .int .i64 y5, .int .i64 y6, .slice a9 ((y7).length) c10]⟩]]) (fun s g => OwnE 3 1 (I1 .i64) (.slice a9 ((y7).length) c10) s.1 g) FUEL (y7, 0) L12 x22 hx23 hL12 ⟨rfl, rfl, rfl, rfl, rfl, rfl, rfl, rfl, trivial⟩ (fun _ h => h) ?_
    rintro ⟨l15, s18⟩ L17 o26 fl27 hm25 hL17 hn28 hd29
    have hm25 : fiducialref13_Crop_s1 p0_0 p0_1 p0_2 p0_3 p1 p2 p3 p4 l15 s18 = some o26 := hm25
    unfold fiducialref13_Crop_s1 at hm25
    refine WK.sub (e' := [(1, .int .i64 p1), (2, .int .i64 p2), (3, .int .i64 p3), (4, .int .i64 p4), (5, .pointer (some ⟨b2, 0, none⟩)), (10, .pointer (some ⟨b3, 0, none⟩)), (11, .pointer (some ⟨b14, 0, none⟩)), (12, .int .i64 s18)]) ⟨rfl, rfl, rfl, rfl, rfl, rfl, rfl, rfl, trivial⟩ (WK.cls (C' := St w0 m m [[⟨b2, 24, [.int .i64 p0_0, .int .i64 p0_1, .int .i64 p0_2, .slice a_p0_3 p0_3.length c_p0_3]⟩], [⟨b3, 24, [.int .i64 0, .int .i64 0, .int .i64 0, .slice none 0 0]⟩], L17, [⟨b14, 24, [.int .i64 y4, .int .i64 y5, .int .i64 y6, .slice a9 ((y7).length) c10]⟩]]) (fun _ h => h) ?_)
    refine WK_seq ?_
    refine WK_seq ?_
    refine WK_region ?_
    refine WO_pure tbok 3 [(1, .int .i64 p1), (2, .int .i64 p2), (3, .int .i64 p3), (4, .int .i64 p4), (5, .pointer (some ⟨b2, 0, none⟩)), (10, .pointer (some ⟨b3, 0, none⟩)), (11, .pointer (some ⟨b14, 0, none⟩)), (12, .int .i64 s18), (21, .bool (decide (s18 < p4)))] rfl ⟨rfl, rfl, rfl, rfl, rfl, rfl, rfl, rfl, rfl, trivial⟩ ?_
    refine WO_end ?_
    refine WK_cond (b := decide (s18 < p4)) rfl (fun hb31 => ?_) (fun hb31 => ?_)
    · have hm25 := ifT hb31 hm25
      refine WK_skip ?_
      refine WK_seq ?_
      refine WK_block ?_
      refine WK_seq ?_
      refine WK_region ?_
      refine WO_pure tbok 1 [(1, .int .i64 p1), (2, .int .i64 p2), (3, .int .i64 p3), (4, .int .i64 p4), (5, .pointer (some ⟨b2, 0, none⟩)), (10, .pointer (some ⟨b3, 0, none⟩)), (11, .pointer (some ⟨b14, 0, none⟩)), (12, .int .i64 s18), (13, .int .i64 0)] rfl ⟨rfl, rfl, rfl, rfl, rfl, rfl, rfl, rfl, rfl, trivial⟩ ?_
      refine WO_end ?_
      obtain ⟨x39, hx40, hm25⟩ := bind_some hm25
      refine WK_join (β := (List Int) × (List Ent)) (fun p => p.1 = x39 ∧ OwnE 3 1 (I1 .i64) (.slice a9 ((y7).length) c10) p.1 p.2) (fun p => [(1, .int .i64 p1), (2, .int .i64 p2), (3, .int .i64 p3), (4, .int .i64 p4), (5, .pointer (some ⟨b2, 0, none⟩)), (10, .pointer (some ⟨b3, 0, none⟩)), (11, .pointer (some ⟨b14, 0, none⟩)), (12, .int .i64 s18)]) (fun p => St w0 m m [[⟨b2, 24, [.int .i64 p0_0, .int .i64 p0_1, .int .i64 p0_2, .slice a_p0_3 p0_3.length c_p0_3]⟩], [⟨b3, 24, [.int .i64 0, .int .i64 0, .int .i64 0, .slice none 0 0]⟩], p.2, [⟨b14, 24, [.int .i64 y4, .int .i64 y5, .int .i64 y6, .slice a9 ((y7).length) c10]⟩]]) ?_ (fun hk41 => ?_)
      · rintro ⟨l36, L38⟩ ⟨hq47, hL38⟩
        subst hq47
        refine WK.sub (e' := [(1, .int .i64 p1), (2, .int .i64 p2), (3, .int .i64 p3), (4, .int .i64 p4), (5, .pointer (some ⟨b2, 0, none⟩)), (10, .pointer (some ⟨b3, 0, none⟩)), (11, .pointer (some ⟨b14, 0, none⟩)), (12, .int .i64 s18)]) ⟨rfl, rfl, rfl, rfl, rfl, rfl, rfl, rfl, trivial⟩ (WK.cls (C' := St w0 m m [[⟨b2, 24, [.int .i64 p0_0, .int .i64 p0_1, .int .i64 p0_2, .slice a_p0_3 p0_3.length c_p0_3]⟩], [⟨b3, 24, [.int .i64 0, .int .i64 0, .int .i64 0, .slice none 0 0]⟩], L38, [⟨b14, 24, [.int .i64 y4, .int .i64 y5, .int .i64 y6, .slice a9 ((y7).length) c10]⟩]]) (fun _ h => h) ?_)
        refine WK_blk ?_
        refine WK_region ?_
        refine WO_pure tbok 3 [(1, .int .i64 p1), (2, .int .i64 p2), (3, .int .i64 p3), (4, .int .i64 p4), (5, .pointer (some ⟨b2, 0, none⟩)), (10, .pointer (some ⟨b3, 0, none⟩)), (11, .pointer (some ⟨b14, 0, none⟩)), (12, .int .i64 (w64 (s18 + 1)))] rfl ⟨rfl, rfl, rfl, rfl, rfl, rfl, rfl, rfl, trivial⟩ ?_
        refine WO_end ?_
        cases hm25
        refine WK.sub ?_ (WK.cls (fun _ h => h) (hn28 _ L38 rfl hL38))
        exact ⟨rfl, rfl, rfl, rfl, rfl, rfl, rfl, rfl, trivial⟩
      · refine WK_block ?_
        refine WK_loop (S := List Int × Int) (G := List Ent) (fun s => fiducialref13_Crop_s2 p0_0 p0_1 p0_2 p0_3 p1 p2 p3 s18 s.1 s.2) (fun s g => [(1, .int .i64 p1), (2, .int .i64 p2), (3, .int .i64 p3), (4, .int .i64 p4), (5, .pointer (some ⟨b2, 0, none⟩)), (10, .pointer (some ⟨b3, 0, none⟩)), (11, .pointer (some ⟨b14, 0, none⟩)), (12, .int .i64 s18), (13, .int .i64 s.2)]) (fun s g => St w0 m m [[⟨b2, 24, [.int .i64 p0_0, .int .i64 p0_1, .int .i64 p0_2, .slice a_p0_3 p0_3.length c_p0_3]⟩], [⟨b3, 24, [.int .i64 0, .int .i64 0, .int .i64 0, .slice none 0 0]⟩], g, [⟨b14, 24, [.int .i64 y4, .int .i64 y5, .int .i64 y6, .slice a9 ((y7).length) c10]⟩]]) (fun s g => OwnE 3 1 (I1 .i64) (.slice a9 ((y7).length) c10) s.1 g) FUEL (l15, 0) L17 x39 hx40 hL17 ⟨rfl, rfl, rfl, rfl, rfl, rfl, rfl, rfl, rfl, trivial⟩ (fun _ h => h) ?_
        rintro ⟨l32, s35⟩ L34 o43 fl44 hm42 hL34 hn45 hd46
        have hm42 : fiducialref13_Crop_s2 p0_0 p0_1 p0_2 p0_3 p1 p2 p3 s18 l32 s35 = some o43 := hm42
        unfold fiducialref13_Crop_s2 at hm42
        refine WK.sub (e' := [(1, .int .i64 p1), (2, .int .i64 p2), (3, .int .i64 p3), (4, .int .i64 p4), (5, .pointer (some ⟨b2, 0, none⟩)), (10, .pointer (some ⟨b3, 0, none⟩)), (11, .pointer (some ⟨b14, 0, none⟩)), (12, .int .i64 s18), (13, .int .i64 s35)]) ⟨rfl, rfl, rfl, rfl, rfl, rfl, rfl, rfl, rfl, trivial⟩ (WK.cls (C' := St w0 m m [[⟨b2, 24, [.int .i64 p0_0, .int .i64 p0_1, .int .i64 p0_2, .slice a_p0_3 p0_3.length c_p0_3]⟩], [⟨b3, 24, [.int .i64 0, .int .i64 0, .int .i64 0, .slice none 0 0]⟩], L34, [⟨b14, 24, [.int .i64 y4, .int .i64 y5, .int .i64 y6, .slice a9 ((y7).length) c10]⟩]]) (fun _ h => h) ?_)
        refine WK_seq ?_
        refine WK_seq ?_
        refine WK_region ?_
        refine WO_pure tbok 3 [(1, .int .i64 p1), (2, .int .i64 p2), (3, .int .i64 p3), (4, .int .i64 p4), (5, .pointer (some ⟨b2, 0, none⟩)), (10, .pointer (some ⟨b3, 0, none⟩)), (11, .pointer (some ⟨b14, 0, none⟩)), (12, .int .i64 s18), (13, .int .i64 s35), (26, .bool (decide (s35 < p3)))] rfl ⟨rfl, rfl, rfl, rfl, rfl, rfl, rfl, rfl, rfl, rfl, trivial⟩ ?_
        refine WO_end ?_
        refine WK_cond (b := decide (s35 < p3)) rfl (fun hb48 => ?_) (fun hb48 => ?_)
        · have hm42 := ifT hb48 hm42
          refine WK_skip ?_
          refine WK_seq ?_
          refine WK_block ?_
          refine WK_draw 16 [0, 1, 2, 3, 4, 5, 6, 7, 8, 9, 10, 11, 12, 13, 14, 15] follows_ok (by kernel_rfl) St_closed ?_
          refine WO_pure tbok 1 [(1, .int .i64 p1), (2, .int .i64 p2), (3, .int .i64 p3), (4, .int .i64 p4), (5, .pointer (some ⟨b2, 0, none⟩)), (10, .pointer (some ⟨b3, 0, none⟩)), (11, .pointer (some ⟨b14, 0, none⟩)), (12, .int .i64 s18), (13, .int .i64 s35), (29, .pointer (some ⟨b14, 3, none⟩))] rfl ⟨rfl, rfl, rfl, rfl, rfl, rfl, rfl, rfl, rfl, rfl, trivial⟩ ?_
          refine WO_loadB tbok 3 rfl rfl rfl rfl (fun _ h => h) rfl rfl ?_
          refine WO_pure tbok 5 [(1, .int .i64 p1), (2, .int .i64 p2), (3, .int .i64 p3), (4, .int .i64 p4), (5, .pointer (some ⟨b2, 0, none⟩)), (10, .pointer (some ⟨b3, 0, none⟩)), (11, .pointer (some ⟨b14, 0, none⟩)), (12, .int .i64 s18), (13, .int .i64 s35), (30, .slice a9 ((y7).length) c10), (35, .int .i64 (w64 ((w64 (s18 * p3)) + s35)))] rfl ⟨rfl, rfl, rfl, rfl, rfl, rfl, rfl, rfl, rfl, rfl, rfl, trivial⟩ ?_
          refine WO_loadB tbok 0 rfl rfl rfl rfl (fun _ h => h) rfl rfl ?_
          refine WO_pure tbok 6 [(1, .int .i64 p1), (2, .int .i64 p2), (3, .int .i64 p3), (4, .int .i64 p4), (5, .pointer (some ⟨b2, 0, none⟩)), (10, .pointer (some ⟨b3, 0, none⟩)), (11, .pointer (some ⟨b14, 0, none⟩)), (12, .int .i64 s18), (13, .int .i64 s35), (30, .slice a9 ((y7).length) c10), (35, .int .i64 (w64 ((w64 (s18 * p3)) + s35))), (36, .agg #[.int .i64 p0_0, .int .i64 p0_1, .int .i64 p0_2, .slice a_p0_3 p0_3.length c_p0_3]), (39, .int .i64 (w64 (p1 + s35))), (42, .int .i64 (w64 (p2 + s18)))] rfl ⟨rfl, rfl, rfl, rfl, rfl, rfl, rfl, rfl, rfl, rfl, rfl, rfl, rfl, rfl, trivial⟩ ?_
          obtain ⟨y49, hc50, hm42⟩ := bind_some hm42
          refine WO_call0 (.int .i64 y49) rfl rfl St_closed rfl rfl rfl rfl St_closed ⟨44, #[], #[], rfl, callable_44, fun w hw => ⟨_, hw.sat, fiducialref13_At_walk h_p0_3 hc50⟩⟩ ?_
          obtain ⟨hc51, hm42⟩ := chk_some hm42
          refine WO_index tbok rfl rfl rfl rfl rfl rfl rfl rfl (OwnE.addr hL34) (by simpa using hc51) ?_
          refine WO_tail ?_
          refine WO_storeO (E := (I1 .i64)) tbok (fun _ => rfl) 2 y49 rfl rfl rfl rfl rfl hL34 rfl (by simpa using idx_lt hc51) rfl rfl rfl rfl (fun L52 hL52 => ?_)
          refine WO.cls (C' := St w0 m m [[⟨b2, 24, [.int .i64 p0_0, .int .i64 p0_1, .int .i64 p0_2, .slice a_p0_3 p0_3.length c_p0_3]⟩], [⟨b3, 24, [.int .i64 0, .int .i64 0, .int .i64 0, .slice none 0 0]⟩], L52, [⟨b14, 24, [.int .i64 y4, .int .i64 y5, .int .i64 y6, .slice a9 ((y7).length) c10]⟩]]) (fun _ h => h) ?_
          refine WO_end ?_
          refine WK_blk ?_
          refine WK_region ?_
          refine WO_pure tbok 3 [(1, .int .i64 p1), (2, .int .i64 p2), (3, .int .i64 p3), (4, .int .i64 p4), (5, .pointer (some ⟨b2, 0, none⟩)), (10, .pointer (some ⟨b3, 0, none⟩)), (11, .pointer (some ⟨b14, 0, none⟩)), (12, .int .i64 s18), (13, .int .i64 (w64 (s35 + 1)))] rfl ⟨rfl, rfl, rfl, rfl, rfl, rfl, rfl, rfl, rfl, trivial⟩ ?_
          refine WO_end ?_
          cases hm42
          refine WK.sub ?_ (WK.cls (fun _ h => h) (hn45 _ L52 rfl hL52))
          exact ⟨rfl, rfl, rfl, rfl, rfl, rfl, rfl, rfl, rfl, trivial⟩
        · have hm42 := ifF hb48 hm42
          refine WK_exit rfl ?_
          cases hm42
          refine WK.sub ?_ (WK.cls (fun _ h => h) (hk41 (l32, L34) ⟨(hd46 _ rfl), hL34⟩))
          exact ⟨rfl, rfl, rfl, rfl, rfl, rfl, rfl, rfl, trivial⟩
    · have hm25 := ifF hb31 hm25
      refine WK_exit rfl ?_
      cases hm25
      refine WK.sub ?_ (WK.cls (fun _ h => h) (hk24 (l15, L17) ⟨(hd29 _ rfl), hL17⟩))
      exact ⟨rfl, rfl, trivial⟩
theorem fiduciallaw13_RasterParts_walk {m : Mu} {p0_0 : Int} {p0_1 : Int} {p0_2 : Int} {p0_3 : List Int} {p1_0 : Int} {p1_1 : Int} {p1_2 : Int} {p1_3 : Int} {a_p0_3 : Option Addr} {q_p0_3 c_p0_3 : Nat} (h_p0_3 : SlR (FE (I1 .i64)) 1 m (.slice a_p0_3 q_p0_3 c_p0_3) p0_3) {r : Bool} (hm : fiduciallaw13_RasterParts p0_0 p0_1 p0_2 p0_3 p1_0 p1_1 p1_2 p1_3 = some r) :
    Go.E.Spec Try.prog 9 [.agg #[.int .i64 p0_0, .int .i64 p0_1, .int .i64 p0_2, .slice a_p0_3 q_p0_3 c_p0_3], .agg #[.int .i64 p1_0, .int .i64 p1_1, .int .i64 p1_2, .int .i64 p1_3]] m (fun v _ _ => v = .bool r) := by
  refine Spec_enter Try.func9 rfl rfl rfl (fun w0 => ?_)
  refine WK.sub (e' := [(0, .agg #[.int .i64 p0_0, .int .i64 p0_1, .int .i64 p0_2, .slice a_p0_3 q_p0_3 c_p0_3]), (1, .agg #[.int .i64 p1_0, .int .i64 p1_1, .int .i64 p1_2, .int .i64 p1_3])]) ⟨rfl, rfl, trivial⟩ ?_
  obtain rfl := SlR.qlen h_p0_3
  refine WK.sub (e' := [(0, .agg #[.int .i64 p0_0, .int .i64 p0_1, .int .i64 p0_2, .slice a_p0_3 p0_3.length c_p0_3]), (1, .agg #[.int .i64 p1_0, .int .i64 p1_1, .int .i64 p1_2, .int .i64 p1_3])]) ⟨rfl, rfl, trivial⟩ ?_
  unfold fiduciallaw13_RasterParts at hm
  refine WK_seq ?_
  refine WK_region ?_
  refine WO_box [.int .i64 p0_0, .int .i64 p0_1, .int .i64 p0_2, .slice a_p0_3 p0_3.length c_p0_3] rfl rfl trivial rfl rfl rfl (fun b2 => ?_)
  refine WO.cls (C' := St w0 m m [[⟨b2, 24, [.int .i64 p0_0, .int .i64 p0_1, .int .i64 p0_2, .slice a_p0_3 p0_3.length c_p0_3]⟩]]) (fun _ h => h) ?_
  refine WO_box [.int .i64 p1_0, .int .i64 p1_1, .int .i64 p1_2, .int .i64 p1_3] rfl rfl trivial rfl rfl rfl (fun b3 => ?_)
  refine WO.cls (C' := St w0 m m [[⟨b2, 24, [.int .i64 p0_0, .int .i64 p0_1, .int .i64 p0_2, .slice a_p0_3 p0_3.length c_p0_3]⟩], [⟨b3, 48, [.int .i64 p1_0, .int .i64 p1_1, .int .i64 p1_2, .int .i64 p1_3]⟩]]) (fun _ h => h) ?_
  refine WO_pure tbok 1 [(2, .pointer (some ⟨b2, 0, none⟩)), (3, .pointer (some ⟨b3, 0, none⟩)), (4, .bool false)] rfl ⟨rfl, rfl, rfl, trivial⟩ ?_
  refine WO_end ?_
  refine WK_seq ?_
  refine WK_seq ?_
  refine WK_region ?_
  obtain ⟨y4, hc5, hm⟩ := bind_some hm
  refine WO_call0 (.bool y4) rfl rfl trivial rfl rfl rfl rfl St_closed ⟨11, #[], #[], rfl, callable_11, fun w hw => ⟨_, hw.sat, fiduciallaw13_known_walk hc5⟩⟩ ?_
  refine WO_pure tbok 1 [(2, .pointer (some ⟨b2, 0, none⟩)), (3, .pointer (some ⟨b3, 0, none⟩)), (4, .bool false), (11, .bool (!y4))] rfl ⟨rfl, rfl, rfl, rfl, trivial⟩ ?_
  refine WO_end ?_
  refine WK_cond (b := !y4) rfl (fun hb6 => ?_) (fun hb6 => ?_)
  · have hm := ifT hb6 hm
    refine WK_seq ?_
    refine WK_region ?_
    refine WO_pure tbok 1 [(2, .pointer (some ⟨b2, 0, none⟩)), (3, .pointer (some ⟨b3, 0, none⟩)), (4, .bool false)] rfl ⟨rfl, rfl, rfl, trivial⟩ ?_
    refine WO_end ?_
    cases hm
    exact WK_ret (ret_out (L := []) (RLc_tmp rfl RLc_nil) (List.nil_sublist _) rfl)
  · have hm := ifF hb6 hm
    refine WK_skip ?_
    refine WK_seq ?_
    refine WK_seq ?_
    refine WK_region ?_
    refine WO_loadB tbok 0 rfl rfl rfl rfl (fun _ h => h) rfl rfl ?_
    refine WO_bsliceX (E := V4) (El := El24) tbok (fun _ => rfl) (by decide) [.agg #[.int .i64 p0_0, .int .i64 p0_1, .int .i64 p0_2, .slice a_p0_3 p0_3.length c_p0_3]] [(.int .i64 p0_0, .int .i64 p0_1, .int .i64 p0_2, .slice a_p0_3 p0_3.length c_p0_3)] ([(p0_0, p0_1, p0_2, p0_3)] : List (Int × Int × Int × List Int)) rfl rfl trivial rfl rfl rfl rfl rfl rfl rfl rfl rfl rfl rfl rfl ⟨⟨_, _, _, rfl, h_p0_3⟩, trivial⟩ (fun b7 hb7 => ?_)
    refine WO.cls (C' := St w0 m m [[⟨b2, 24, [.int .i64 p0_0, .int .i64 p0_1, .int .i64 p0_2, .slice a_p0_3 p0_3.length c_p0_3]⟩], [⟨b3, 48, [.int .i64 p1_0, .int .i64 p1_1, .int .i64 p1_2, .int .i64 p1_3]⟩], [⟨b7, 24, [.int .i64 p0_0, .int .i64 p0_1, .int .i64 p0_2, .slice a_p0_3 p0_3.length c_p0_3]⟩]]) (fun _ h => h) ?_
    obtain ⟨y9, hc10, hm⟩ := bind_some hm
    refine WO_call0 (.bool y9) rfl rfl trivial rfl rfl rfl rfl St_closed ⟨12, #[], #[], rfl, callable_12, fun w hw => ⟨_, hw.satV, fiduciallaw13_few_walk (OwnX.rd (E := V4) (k := 4) (fun _ => rfl) hb7 mono_El24 hw.leV (fun _ hx => hw.memV (i := 2) rfl hx)) hc10⟩⟩ ?_
    refine WO_pure tbok 1 [(2, .pointer (some ⟨b2, 0, none⟩)), (3, .pointer (some ⟨b3, 0, none⟩)), (4, .bool false), (15, .bool (!y9))] rfl ⟨rfl, rfl, rfl, rfl, trivial⟩ ?_
    refine WO_end ?_
    refine WK_cond (b := !y9) rfl (fun hb11 => ?_) (fun hb11 => ?_)
    · have hm := ifT hb11 hm
      refine WK_seq ?_
      refine WK_region ?_
      refine WO_pure tbok 1 [(2, .pointer (some ⟨b2, 0, none⟩)), (3, .pointer (some ⟨b3, 0, none⟩)), (4, .bool true)] rfl ⟨rfl, rfl, rfl, trivial⟩ ?_
      refine WO_end ?_
      cases hm
      exact WK_ret (ret_out (L := []) (RLc_tmp rfl RLc_nil) (List.nil_sublist _) rfl)
    · have hm := ifF hb11 hm
      refine WK_skip ?_
      refine WK_seq ?_
      refine WK_region ?_
      refine WO_loadB tbok 0 rfl rfl rfl rfl (fun _ h => h) rfl rfl ?_
      refine WO_pure tbok 1 [(2, .pointer (some ⟨b2, 0, none⟩)), (3, .pointer (some ⟨b3, 0, none⟩)), (4, .bool false), (17, .agg #[.int .i64 p0_0, .int .i64 p0_1, .int .i64 p0_2, .slice a_p0_3 p0_3.length c_p0_3]), (18, .pointer (some ⟨b3, 0, none⟩))] rfl ⟨rfl, rfl, rfl, rfl, rfl, trivial⟩ ?_
      refine WO_loadB tbok 1 rfl rfl rfl rfl (fun _ h => h) rfl rfl ?_
      refine WO_pure tbok 1 [(2, .pointer (some ⟨b2, 0, none⟩)), (3, .pointer (some ⟨b3, 0, none⟩)), (4, .bool false), (17, .agg #[.int .i64 p0_0, .int .i64 p0_1, .int .i64 p0_2, .slice a_p0_3 p0_3.length c_p0_3]), (19, .int .i64 p1_0), (20, .pointer (some ⟨b3, 1, none⟩))] rfl ⟨rfl, rfl, rfl, rfl, rfl, rfl, trivial⟩ ?_
      refine WO_loadB tbok 1 rfl rfl rfl rfl (fun _ h => h) rfl rfl ?_
      refine WO_pure tbok 1 [(2, .pointer (some ⟨b2, 0, none⟩)), (3, .pointer (some ⟨b3, 0, none⟩)), (4, .bool false), (17, .agg #[.int .i64 p0_0, .int .i64 p0_1, .int .i64 p0_2, .slice a_p0_3 p0_3.length c_p0_3]), (19, .int .i64 p1_0), (21, .int .i64 p1_1), (22, .pointer (some ⟨b3, 2, none⟩))] rfl ⟨rfl, rfl, rfl, rfl, rfl, rfl, rfl, trivial⟩ ?_
      refine WO_loadB tbok 1 rfl rfl rfl rfl (fun _ h => h) rfl rfl ?_
      refine WO_pure tbok 1 [(2, .pointer (some ⟨b2, 0, none⟩)), (3, .pointer (some ⟨b3, 0, none⟩)), (4, .bool false), (17, .agg #[.int .i64 p0_0, .int .i64 p0_1, .int .i64 p0_2, .slice a_p0_3 p0_3.length c_p0_3]), (19, .int .i64 p1_0), (21, .int .i64 p1_1), (23, .int .i64 p1_2), (24, .pointer (some ⟨b3, 3, none⟩))] rfl ⟨rfl, rfl, rfl, rfl, rfl, rfl, rfl, rfl, trivial⟩ ?_
      refine WO_loadB tbok 1 rfl rfl rfl rfl (fun _ h => h) rfl rfl ?_
      obtain ⟨⟨y12, y13, y14, y15, y16⟩, hc17, hm⟩ := bind_some hm
      refine WO_call1 (raster_Crop_Q (y12, y13, y14, y15, y16)) rfl rfl trivial rfl rfl rfl rfl ⟨39, #[], #[], rfl, callable_39, fun w hw => ⟨_, hw.sat, raster_Crop_walk h_p0_3 hc17⟩⟩ (fun v22 L21 hq => ?_)
      obtain ⟨a18, qa18, c19, rfl, hL21⟩ := hq
      obtain rfl := OwnE.qlen hL21
      refine WO.cls (C' := St w0 m m [[⟨b2, 24, [.int .i64 p0_0, .int .i64 p0_1, .int .i64 p0_2, .slice a_p0_3 p0_3.length c_p0_3]⟩], [⟨b3, 48, [.int .i64 p1_0, .int .i64 p1_1, .int .i64 p1_2, .int .i64 p1_3]⟩], [⟨b7, 24, [.int .i64 p0_0, .int .i64 p0_1, .int .i64 p0_2, .slice a_p0_3 p0_3.length c_p0_3]⟩], L21]) (fun _ h => h) ?_
      refine WO_pure tbok 3 [(2, .pointer (some ⟨b2, 0, none⟩)), (3, .pointer (some ⟨b3, 0, none⟩)), (4, .bool false), (27, .agg #[.int .i64 y12, .int .i64 y13, .int .i64 y14, .slice a18 ((y15).length) c19]), (28, .int .i64 y16)] rfl ⟨rfl, rfl, rfl, rfl, rfl, trivial⟩ ?_
      refine WO_alloc tbok [.int .i64 0, .int .i64 0, .int .i64 0, .slice none 0 0] rfl rfl trivial rfl rfl rfl rfl (fun b23 => ?_)
      refine WO.cls (C' := St w0 m m [[⟨b2, 24, [.int .i64 p0_0, .int .i64 p0_1, .int .i64 p0_2, .slice a_p0_3 p0_3.length c_p0_3]⟩], [⟨b3, 48, [.int .i64 p1_0, .int .i64 p1_1, .int .i64 p1_2, .int .i64 p1_3]⟩], [⟨b7, 24, [.int .i64 p0_0, .int .i64 p0_1, .int .i64 p0_2, .slice a_p0_3 p0_3.length c_p0_3]⟩], L21, [⟨b23, 24, [.int .i64 0, .int .i64 0, .int .i64 0, .slice none 0 0]⟩]]) (fun _ h => h) ?_
      refine WO_storeB tbok 4 [.int .i64 y12, .int .i64 y13, .int .i64 y14, .slice a18 ((y15).length) c19] rfl rfl rfl rfl rfl rfl rfl ?_
      refine WO.cls (C' := St w0 m m [[⟨b2, 24, [.int .i64 p0_0, .int .i64 p0_1, .int .i64 p0_2, .slice a_p0_3 p0_3.length c_p0_3]⟩], [⟨b3, 48, [.int .i64 p1_0, .int .i64 p1_1, .int .i64 p1_2, .int .i64 p1_3]⟩], [⟨b7, 24, [.int .i64 p0_0, .int .i64 p0_1, .int .i64 p0_2, .slice a_p0_3 p0_3.length c_p0_3]⟩], L21, [⟨b23, 24, [.int .i64 y12, .int .i64 y13, .int .i64 y14, .slice a18 ((y15).length) c19]⟩]]) (fun _ h => h) ?_
      refine WO_pure tbok 1 [(2, .pointer (some ⟨b2, 0, none⟩)), (3, .pointer (some ⟨b3, 0, none⟩)), (4, .bool false), (5, .pointer (some ⟨b23, 0, none⟩)), (6, .int .i64 y16)] rfl ⟨rfl, rfl, rfl, rfl, rfl, trivial⟩ ?_
      refine WO_end ?_
      refine WK_seq ?_
      refine WK_region ?_
      refine WO_loadB tbok 0 rfl rfl rfl rfl (fun _ h => h) rfl rfl ?_
      obtain ⟨y24, hc25, hm⟩ := bind_some hm
      refine WO_call0 (.int .i64 y24) rfl rfl trivial rfl rfl rfl rfl St_closed ⟨15, #[], #[], rfl, callable_15, fun w hw => ⟨_, hw.sat, fiducialref13_Check_walk h_p0_3 hc25⟩⟩ ?_
      refine WO_pure tbok 1 [(2, .pointer (some ⟨b2, 0, none⟩)), (3, .pointer (some ⟨b3, 0, none⟩)), (4, .bool false), (5, .pointer (some ⟨b23, 0, none⟩)), (6, .int .i64 y16), (7, .int .i64 y24)] rfl ⟨rfl, rfl, rfl, rfl, rfl, rfl, trivial⟩ ?_
      refine WO_end ?_
      refine WK_seq ?_
      refine WK_seq ?_
      obtain ⟨s26, hx27, hm⟩ := bind_some hm
      refine WK_meet [(2, .pointer (some ⟨b2, 0, none⟩)), (3, .pointer (some ⟨b3, 0, none⟩)), (4, .bool false), (5, .pointer (some ⟨b23, 0, none⟩)), (6, .int .i64 y16), (7, .int .i64 y24), (88, .bool s26)] (St w0 m m [[⟨b2, 24, [.int .i64 p0_0, .int .i64 p0_1, .int .i64 p0_2, .slice a_p0_3 p0_3.length c_p0_3]⟩], [⟨b3, 48, [.int .i64 p1_0, .int .i64 p1_1, .int .i64 p1_2, .int .i64 p1_3]⟩], [⟨b7, 24, [.int .i64 p0_0, .int .i64 p0_1, .int .i64 p0_2, .slice a_p0_3 p0_3.length c_p0_3]⟩], L21, [⟨b23, 24, [.int .i64 y12, .int .i64 y13, .int .i64 y14, .slice a18 ((y15).length) c19]⟩]]) ?_ (fun hk28 => ?_)
      · obtain ⟨s29, hx30, hm⟩ := bind_some hm
        refine WK_meet [(2, .pointer (some ⟨b2, 0, none⟩)), (3, .pointer (some ⟨b3, 0, none⟩)), (4, .bool false), (5, .pointer (some ⟨b23, 0, none⟩)), (6, .int .i64 y16), (7, .int .i64 s29)] (St w0 m m [[⟨b2, 24, [.int .i64 p0_0, .int .i64 p0_1, .int .i64 p0_2, .slice a_p0_3 p0_3.length c_p0_3]⟩], [⟨b3, 48, [.int .i64 p1_0, .int .i64 p1_1, .int .i64 p1_2, .int .i64 p1_3]⟩], [⟨b7, 24, [.int .i64 p0_0, .int .i64 p0_1, .int .i64 p0_2, .slice a_p0_3 p0_3.length c_p0_3]⟩], L21, [⟨b23, 24, [.int .i64 y12, .int .i64 y13, .int .i64 y14, .slice a18 ((y15).length) c19]⟩]]) ?_ (fun hk31 => ?_)
        · refine WK_seq ?_
          refine WK_seq ?_
          refine WK_region ?_
          refine WO_pure tbok 2 [(2, .pointer (some ⟨b2, 0, none⟩)), (3, .pointer (some ⟨b3, 0, none⟩)), (4, .bool false), (5, .pointer (some ⟨b23, 0, none⟩)), (6, .int .i64 y16), (7, .int .i64 s29), (90, .bool (s29 != 0))] rfl ⟨rfl, rfl, rfl, rfl, rfl, rfl, rfl, trivial⟩ ?_
          refine WO_end ?_
          refine WK_cond (b := s29 != 0) rfl (fun hb32 => ?_) (fun hb32 => ?_)
          · have hm := ifT hb32 hm
            refine WK_seq ?_
            refine WK_region ?_
            refine WO_pure tbok 4 [(2, .pointer (some ⟨b2, 0, none⟩)), (3, .pointer (some ⟨b3, 0, none⟩)), (4, .bool false), (5, .pointer (some ⟨b23, 0, none⟩)), (6, .int .i64 y16), (94, .bool (y16 == s29))] rfl ⟨rfl, rfl, rfl, rfl, rfl, rfl, trivial⟩ ?_
            refine WO_split (d := 94) (b := y16 == s29) rfl (fun hb33 => ?_) (fun hb33 => ?_)
            · have hm := ifT hb33 hm
              refine WO_loadB tbok 4 rfl rfl rfl rfl (fun _ h => h) rfl rfl ?_
              obtain ⟨y34, hc35, hm⟩ := bind_some hm
              refine WO_call0 (.bool y34) rfl rfl trivial rfl rfl rfl rfl St_closed ⟨16, #[], #[], rfl, callable_16, fun w hw => ⟨_, hw.satV, fiduciallaw13_empty_walk (OwnE.rd (E := (I1 .i64)) (k := 1) (fun _ => rfl) hL21 (fun _ hx => hw.memV (i := 3) rfl hx)) hc35⟩⟩ ?_
              refine WO_pure tbok 2 [(2, .pointer (some ⟨b2, 0, none⟩)), (3, .pointer (some ⟨b3, 0, none⟩)), (4, .bool y34), (5, .pointer (some ⟨b23, 0, none⟩)), (6, .int .i64 y16)] rfl ⟨rfl, rfl, rfl, rfl, rfl, trivial⟩ ?_
              refine WO_end ?_
              cases hm
              exact WK_ret (ret_out (L := []) (RLc_tmp rfl RLc_nil) (List.nil_sublist _) rfl)
            · have hm := ifF hb33 hm
              refine WO_pure tbok 1 [(2, .pointer (some ⟨b2, 0, none⟩)), (3, .pointer (some ⟨b3, 0, none⟩)), (4, .bool false), (5, .pointer (some ⟨b23, 0, none⟩)), (6, .int .i64 y16), (94, .bool false)] rfl ⟨rfl, rfl, rfl, rfl, rfl, rfl, trivial⟩ ?_
              refine WO_skip rfl rfl ?_
              refine WO_pure tbok 2 [(2, .pointer (some ⟨b2, 0, none⟩)), (3, .pointer (some ⟨b3, 0, none⟩)), (4, .bool false), (5, .pointer (some ⟨b23, 0, none⟩)), (6, .int .i64 y16)] rfl ⟨rfl, rfl, rfl, rfl, rfl, trivial⟩ ?_
              refine WO_end ?_
              cases hm
              exact WK_ret (ret_out (L := []) (RLc_tmp rfl RLc_nil) (List.nil_sublist _) rfl)
          · have hm := ifF hb32 hm
            refine WK_skip ?_
            refine WK_seq ?_
            refine WK_region ?_
            refine WO_loadB tbok 0 rfl rfl rfl rfl (fun _ h => h) rfl rfl ?_
            refine WO_loadB tbok 4 rfl rfl rfl rfl (fun _ h => h) rfl rfl ?_
            refine WO_pure tbok 1 [(2, .pointer (some ⟨b2, 0, none⟩)), (3, .pointer (some ⟨b3, 0, none⟩)), (4, .bool false), (5, .pointer (some ⟨b23, 0, none⟩)), (6, .int .i64 y16), (99, .agg #[.int .i64 p0_0, .int .i64 p0_1, .int .i64 p0_2, .slice a_p0_3 p0_3.length c_p0_3]), (100, .agg #[.int .i64 y12, .int .i64 y13, .int .i64 y14, .slice a18 ((y15).length) c19]), (101, .pointer (some ⟨b3, 0, none⟩))] rfl ⟨rfl, rfl, rfl, rfl, rfl, rfl, rfl, rfl, trivial⟩ ?_
            refine WO_loadB tbok 1 rfl rfl rfl rfl (fun _ h => h) rfl rfl ?_
            refine WO_pure tbok 1 [(2, .pointer (some ⟨b2, 0, none⟩)), (3, .pointer (some ⟨b3, 0, none⟩)), (4, .bool false), (5, .pointer (some ⟨b23, 0, none⟩)), (6, .int .i64 y16), (99, .agg #[.int .i64 p0_0, .int .i64 p0_1, .int .i64 p0_2, .slice a_p0_3 p0_3.length c_p0_3]), (100, .agg #[.int .i64 y12, .int .i64 y13, .int .i64 y14, .slice a18 ((y15).length) c19]), (102, .int .i64 p1_0), (103, .pointer (some ⟨b3, 1, none⟩))] rfl ⟨rfl, rfl, rfl, rfl, rfl, rfl, rfl, rfl, rfl, trivial⟩ ?_
            refine WO_loadB tbok 1 rfl rfl rfl rfl (fun _ h => h) rfl rfl ?_
            obtain ⟨⟨y36, y37, y38, y39, y40⟩, hc41, hm⟩ := bind_some hm
            refine WO_call1 (raster_Paste_Q (y36, y37, y38, y39, y40)) rfl rfl trivial rfl rfl rfl rfl ⟨37, #[], #[], rfl, callable_37, fun w hw => ⟨_, hw.satV, raster_Paste_walk (h_p0_3.mono (mono_FE _) hw.leV) (OwnE.rd (E := (I1 .i64)) (k := 1) (fun _ => rfl) hL21 (fun _ hx => hw.memV (i := 3) rfl hx)) hc41⟩⟩ (fun v46 L45 hq => ?_)
            obtain ⟨a42, qa42, c43, rfl, hL45⟩ := hq
            obtain rfl := OwnE.qlen hL45
            refine WO.cls (C' := St w0 m m [[⟨b2, 24, [.int .i64 p0_0, .int .i64 p0_1, .int .i64 p0_2, .slice a_p0_3 p0_3.length c_p0_3]⟩], [⟨b3, 48, [.int .i64 p1_0, .int .i64 p1_1, .int .i64 p1_2, .int .i64 p1_3]⟩], [⟨b7, 24, [.int .i64 p0_0, .int .i64 p0_1, .int .i64 p0_2, .slice a_p0_3 p0_3.length c_p0_3]⟩], L21, [⟨b23, 24, [.int .i64 y12, .int .i64 y13, .int .i64 y14, .slice a18 ((y15).length) c19]⟩], L45]) (fun _ h => h) ?_
            refine WO_pure tbok 3 [(2, .pointer (some ⟨b2, 0, none⟩)), (3, .pointer (some ⟨b3, 0, none⟩)), (4, .bool false), (5, .pointer (some ⟨b23, 0, none⟩)), (6, .int .i64 y16), (106, .agg #[.int .i64 y36, .int .i64 y37, .int .i64 y38, .slice a42 ((y39).length) c43]), (107, .int .i64 y40)] rfl ⟨rfl, rfl, rfl, rfl, rfl, rfl, rfl, trivial⟩ ?_
            refine WO_alloc tbok [.int .i64 0, .int .i64 0, .int .i64 0, .slice none 0 0] rfl rfl trivial rfl rfl rfl rfl (fun b47 => ?_)
            refine WO.cls (C' := St w0 m m [[⟨b2, 24, [.int .i64 p0_0, .int .i64 p0_1, .int .i64 p0_2, .slice a_p0_3 p0_3.length c_p0_3]⟩], [⟨b3, 48, [.int .i64 p1_0, .int .i64 p1_1, .int .i64 p1_2, .int .i64 p1_3]⟩], [⟨b7, 24, [.int .i64 p0_0, .int .i64 p0_1, .int .i64 p0_2, .slice a_p0_3 p0_3.length c_p0_3]⟩], L21, [⟨b23, 24, [.int .i64 y12, .int .i64 y13, .int .i64 y14, .slice a18 ((y15).length) c19]⟩], L45, [⟨b47, 24, [.int .i64 0, .int .i64 0, .int .i64 0, .slice none 0 0]⟩]]) (fun _ h => h) ?_
            refine WO_storeB tbok 6 [.int .i64 y36, .int .i64 y37, .int .i64 y38, .slice a42 ((y39).length) c43] rfl rfl rfl rfl rfl rfl rfl ?_
            refine WO.cls (C' := St w0 m m [[⟨b2, 24, [.int .i64 p0_0, .int .i64 p0_1, .int .i64 p0_2, .slice a_p0_3 p0_3.length c_p0_3]⟩], [⟨b3, 48, [.int .i64 p1_0, .int .i64 p1_1, .int .i64 p1_2, .int .i64 p1_3]⟩], [⟨b7, 24, [.int .i64 p0_0, .int .i64 p0_1, .int .i64 p0_2, .slice a_p0_3 p0_3.length c_p0_3]⟩], L21, [⟨b23, 24, [.int .i64 y12, .int .i64 y13, .int .i64 y14, .slice a18 ((y15).length) c19]⟩], L45, [⟨b47, 24, [.int .i64 y36, .int .i64 y37, .int .i64 y38, .slice a42 ((y39).length) c43]⟩]]) (fun _ h => h) ?_
            refine WO_pure tbok 1 [(2, .pointer (some ⟨b2, 0, none⟩)), (3, .pointer (some ⟨b3, 0, none⟩)), (4, .bool false), (5, .pointer (some ⟨b23, 0, none⟩)), (6, .int .i64 y16), (8, .pointer (some ⟨b47, 0, none⟩)), (9, .int .i64 y40)] rfl ⟨rfl, rfl, rfl, rfl, rfl, rfl, rfl, trivial⟩ ?_
            refine WO_end ?_
            refine WK_seq ?_
            refine WK_draw 26 [0, 1, 2, 3, 4, 5, 6, 7, 8, 9, 10, 11, 12, 13, 14, 15, 16, 17, 18, 19, 20, 21, 22, 23, 24, 25] follows_ok (by kernel_rfl) St_closed ?_
            refine WO_pure tbok 3 [(2, .pointer (some ⟨b2, 0, none⟩)), (3, .pointer (some ⟨b3, 0, none⟩)), (4, .bool false), (5, .pointer (some ⟨b23, 0, none⟩)), (8, .pointer (some ⟨b47, 0, none⟩)), (9, .int .i64 y40), (110, .bool (y16 == 0))] rfl ⟨rfl, rfl, rfl, rfl, rfl, rfl, rfl, trivial⟩ ?_
            refine WO_split (d := 110) (b := y16 == 0) rfl (fun hb48 => ?_) (fun hb48 => ?_)
            · have hm := ifT hb48 hm
              refine WO_pure tbok 4 [(2, .pointer (some ⟨b2, 0, none⟩)), (3, .pointer (some ⟨b3, 0, none⟩)), (4, .bool false), (5, .pointer (some ⟨b23, 0, none⟩)), (8, .pointer (some ⟨b47, 0, none⟩)), (114, .bool (y40 == 0))] rfl ⟨rfl, rfl, rfl, rfl, rfl, rfl, trivial⟩ ?_
              refine WO_split (d := 114) (b := y40 == 0) rfl (fun hb49 => ?_) (fun hb49 => ?_)
              · have hm := ifT hb49 hm
                refine WO_loadB tbok 4 rfl rfl rfl rfl (fun _ h => h) rfl rfl ?_
                refine WO_loadB tbok 0 rfl rfl rfl rfl (fun _ h => h) rfl rfl ?_
                refine WO_pure tbok 1 [(2, .pointer (some ⟨b2, 0, none⟩)), (3, .pointer (some ⟨b3, 0, none⟩)), (4, .bool false), (8, .pointer (some ⟨b47, 0, none⟩)), (114, .bool true), (115, .agg #[.int .i64 y12, .int .i64 y13, .int .i64 y14, .slice a18 ((y15).length) c19]), (116, .agg #[.int .i64 p0_0, .int .i64 p0_1, .int .i64 p0_2, .slice a_p0_3 p0_3.length c_p0_3]), (117, .pointer (some ⟨b3, 0, none⟩))] rfl ⟨rfl, rfl, rfl, rfl, rfl, rfl, rfl, rfl, trivial⟩ ?_
                refine WO_loadB tbok 1 rfl rfl rfl rfl (fun _ h => h) rfl rfl ?_
                refine WO_pure tbok 1 [(2, .pointer (some ⟨b2, 0, none⟩)), (3, .pointer (some ⟨b3, 0, none⟩)), (4, .bool false), (8, .pointer (some ⟨b47, 0, none⟩)), (114, .bool true), (115, .agg #[.int .i64 y12, .int .i64 y13, .int .i64 y14, .slice a18 ((y15).length) c19]), (116, .agg #[.int .i64 p0_0, .int .i64 p0_1, .int .i64 p0_2, .slice a_p0_3 p0_3.length c_p0_3]), (118, .int .i64 p1_0), (119, .pointer (some ⟨b3, 1, none⟩))] rfl ⟨rfl, rfl, rfl, rfl, rfl, rfl, rfl, rfl, rfl, trivial⟩ ?_
                refine WO_loadB tbok 1 rfl rfl rfl rfl (fun _ h => h) rfl rfl ?_
                refine WO_pure tbok 1 [(2, .pointer (some ⟨b2, 0, none⟩)), (3, .pointer (some ⟨b3, 0, none⟩)), (4, .bool false), (8, .pointer (some ⟨b47, 0, none⟩)), (114, .bool true), (115, .agg #[.int .i64 y12, .int .i64 y13, .int .i64 y14, .slice a18 ((y15).length) c19]), (116, .agg #[.int .i64 p0_0, .int .i64 p0_1, .int .i64 p0_2, .slice a_p0_3 p0_3.length c_p0_3]), (118, .int .i64 p1_0), (120, .int .i64 p1_1), (121, .pointer (some ⟨b3, 2, none⟩))] rfl ⟨rfl, rfl, rfl, rfl, rfl, rfl, rfl, rfl, rfl, rfl, trivial⟩ ?_
                refine WO_loadB tbok 1 rfl rfl rfl rfl (fun _ h => h) rfl rfl ?_
                refine WO_pure tbok 1 [(2, .pointer (some ⟨b2, 0, none⟩)), (4, .bool false), (8, .pointer (some ⟨b47, 0, none⟩)), (114, .bool true), (115, .agg #[.int .i64 y12, .int .i64 y13, .int .i64 y14, .slice a18 ((y15).length) c19]), (116, .agg #[.int .i64 p0_0, .int .i64 p0_1, .int .i64 p0_2, .slice a_p0_3 p0_3.length c_p0_3]), (118, .int .i64 p1_0), (120, .int .i64 p1_1), (122, .int .i64 p1_2), (123, .pointer (some ⟨b3, 3, none⟩))] rfl ⟨rfl, rfl, rfl, rfl, rfl, rfl, rfl, rfl, rfl, rfl, trivial⟩ ?_
                refine WO_loadB tbok 1 rfl rfl rfl rfl (fun _ h => h) rfl rfl ?_
                obtain ⟨⟨y50, y51, y52, y53⟩, hc54, hm⟩ := bind_some hm
                refine WO_call1 (fiducialref13_Crop_Q (y50, y51, y52, y53)) rfl rfl St_closed rfl rfl rfl rfl ⟨40, #[], #[], rfl, callable_40, fun w hw => ⟨_, hw.sat, fiducialref13_Crop_walk h_p0_3 hc54⟩⟩ (fun v59 L58 hq => ?_)
                obtain ⟨a55, qa55, c56, rfl, hL58⟩ := hq
                obtain rfl := OwnE.qlen hL58
                refine WO.cls (C' := St w0 m m [[⟨b2, 24, [.int .i64 p0_0, .int .i64 p0_1, .int .i64 p0_2, .slice a_p0_3 p0_3.length c_p0_3]⟩], [⟨b3, 48, [.int .i64 p1_0, .int .i64 p1_1, .int .i64 p1_2, .int .i64 p1_3]⟩], [⟨b7, 24, [.int .i64 p0_0, .int .i64 p0_1, .int .i64 p0_2, .slice a_p0_3 p0_3.length c_p0_3]⟩], L21, [⟨b23, 24, [.int .i64 y12, .int .i64 y13, .int .i64 y14, .slice a18 ((y15).length) c19]⟩], L45, [⟨b47, 24, [.int .i64 y36, .int .i64 y37, .int .i64 y38, .slice a42 ((y39).length) c43]⟩], L58]) (fun _ h => h) ?_
                obtain ⟨y60, hc61, hm⟩ := bind_some hm
                refine WO_call0 (.bool y60) rfl rfl St_closed rfl rfl rfl rfl St_closed ⟨17, #[], #[], rfl, callable_17, fun w hw => ⟨_, hw.satV, fiducialref13_Equal_walk (OwnE.rd (E := (I1 .i64)) (k := 1) (fun _ => rfl) hL21 (fun _ hx => hw.memV (i := 3) rfl hx)) (OwnE.rd (E := (I1 .i64)) (k := 1) (fun _ => rfl) hL58 (fun _ hx => hw.memV (i := 7) rfl hx)) hc61⟩⟩ ?_
                refine WO_pure tbok 2 [(2, .pointer (some ⟨b2, 0, none⟩)), (4, .bool false), (8, .pointer (some ⟨b47, 0, none⟩)), (128, .bool y60)] rfl ⟨rfl, rfl, rfl, rfl, trivial⟩ ?_
                refine WO_split (d := 128) (b := y60) rfl (fun hb62 => ?_) (fun hb62 => ?_)
                · have hm := ifT hb62 hm
                  refine WO_loadB tbok 6 rfl rfl rfl rfl (fun _ h => h) rfl rfl ?_
                  refine WO_loadB tbok 0 rfl rfl rfl rfl (fun _ h => h) rfl rfl ?_
                  obtain ⟨y63, hc64, hm⟩ := bind_some hm
                  refine WO_call0 (.bool y63) rfl rfl St_closed rfl rfl rfl rfl St_closed ⟨17, #[], #[], rfl, callable_17, fun w hw => ⟨_, hw.satV, fiducialref13_Equal_walk (OwnE.rd (E := (I1 .i64)) (k := 1) (fun _ => rfl) hL45 (fun _ hx => hw.memV (i := 5) rfl hx)) (h_p0_3.mono (mono_FE _) hw.leV) hc64⟩⟩ ?_
                  refine WO_pure tbok 2 [(4, .bool y63)] rfl ⟨rfl, trivial⟩ ?_
                  refine WO_tail ?_
                  refine WO_end ?_
                  cases hm
                  exact WK_ret (ret_out (L := []) (RLc_tmp rfl RLc_nil) (List.nil_sublist _) rfl)
                · have hm := ifF hb62 hm
                  refine WO_pure tbok 2 [(4, .bool false), (128, .bool false)] rfl ⟨rfl, rfl, trivial⟩ ?_
                  refine WO_skip rfl rfl ?_
                  refine WO_pure tbok 2 [(4, .bool false)] rfl ⟨rfl, trivial⟩ ?_
                  refine WO_tail ?_
                  refine WO_end ?_
                  cases hm
                  exact WK_ret (ret_out (L := []) (RLc_tmp rfl RLc_nil) (List.nil_sublist _) rfl)
              · have hm := ifF hb49 hm
                refine WO_pure tbok 10 [(2, .pointer (some ⟨b2, 0, none⟩)), (4, .bool false), (8, .pointer (some ⟨b47, 0, none⟩)), (114, .bool false)] rfl ⟨rfl, rfl, rfl, rfl, trivial⟩ ?_
                refine WO_skip rfl rfl ?_
                refine WO_skip rfl rfl ?_
                refine WO_pure tbok 4 [(4, .bool false), (128, .bool false)] rfl ⟨rfl, rfl, trivial⟩ ?_
                refine WO_skip rfl rfl ?_
                refine WO_pure tbok 2 [(4, .bool false)] rfl ⟨rfl, trivial⟩ ?_
                refine WO_tail ?_
                refine WO_end ?_
                cases hm
                exact WK_ret (ret_out (L := []) (RLc_tmp rfl RLc_nil) (List.nil_sublist _) rfl)
            · have hm := ifF hb48 hm
              refine WO_pure tbok 14 [(2, .pointer (some ⟨b2, 0, none⟩)), (4, .bool false), (8, .pointer (some ⟨b47, 0, none⟩)), (114, .bool false)] rfl ⟨rfl, rfl, rfl, rfl, trivial⟩ ?_
              refine WO_skip rfl rfl ?_
              refine WO_skip rfl rfl ?_
              refine WO_pure tbok 4 [(4, .bool false), (128, .bool false)] rfl ⟨rfl, rfl, trivial⟩ ?_
              refine WO_skip rfl rfl ?_
              refine WO_pure tbok 2 [(4, .bool false)] rfl ⟨rfl, trivial⟩ ?_
              refine WO_tail ?_
              refine WO_end ?_
              cases hm
              exact WK_ret (ret_out (L := []) (RLc_tmp rfl RLc_nil) (List.nil_sublist _) rfl)
        · refine WK_cond (b := s26) rfl (fun hb65 => ?_) (fun hb65 => ?_)
          · have hx30 := ifT hb65 hx30
            refine WK_region ?_
            refine WO_pure tbok 1 [(2, .pointer (some ⟨b2, 0, none⟩)), (3, .pointer (some ⟨b3, 0, none⟩)), (4, .bool false), (5, .pointer (some ⟨b23, 0, none⟩)), (6, .int .i64 y16), (7, .int .i64 2)] rfl ⟨rfl, rfl, rfl, rfl, rfl, rfl, trivial⟩ ?_
            refine WO_end ?_
            cases hx30
            refine WK.sub ?_ (WK.cls (fun _ h => h) hk31)
            exact ⟨rfl, rfl, rfl, rfl, rfl, rfl, trivial⟩
          · have hx30 := ifF hb65 hx30
            refine WK_skip ?_
            cases hx30
            refine WK.sub ?_ (WK.cls (fun _ h => h) hk31)
            exact ⟨rfl, rfl, rfl, rfl, rfl, rfl, trivial⟩
      · refine WK_region ?_
        refine WO_pure tbok 3 [(2, .pointer (some ⟨b2, 0, none⟩)), (3, .pointer (some ⟨b3, 0, none⟩)), (4, .bool false), (5, .pointer (some ⟨b23, 0, none⟩)), (6, .int .i64 y16), (7, .int .i64 y24), (33, .bool (y24 == 0))] rfl ⟨rfl, rfl, rfl, rfl, rfl, rfl, rfl, trivial⟩ ?_
        refine WO_split (d := 33) (b := y24 == 0) rfl (fun hb66 => ?_) (fun hb66 => ?_)
        · have hx27 := ifT hb66 hx27
          refine WO_pure tbok 1 [(2, .pointer (some ⟨b2, 0, none⟩)), (3, .pointer (some ⟨b3, 0, none⟩)), (4, .bool false), (5, .pointer (some ⟨b23, 0, none⟩)), (6, .int .i64 y16), (7, .int .i64 y24), (33, .bool true), (34, .pointer (some ⟨b3, 0, none⟩))] rfl ⟨rfl, rfl, rfl, rfl, rfl, rfl, rfl, rfl, trivial⟩ ?_
          refine WO_loadB tbok 1 rfl rfl rfl rfl (fun _ h => h) rfl rfl ?_
          refine WO_pure tbok 2 [(2, .pointer (some ⟨b2, 0, none⟩)), (3, .pointer (some ⟨b3, 0, none⟩)), (4, .bool false), (5, .pointer (some ⟨b23, 0, none⟩)), (6, .int .i64 y16), (7, .int .i64 y24), (33, .bool true), (37, .bool (decide (p1_0 < 0)))] rfl ⟨rfl, rfl, rfl, rfl, rfl, rfl, rfl, rfl, trivial⟩ ?_
          refine WO_split (d := 37) (b := decide (p1_0 < 0)) rfl (fun hb67 => ?_) (fun hb67 => ?_)
          · have hx27 := ifT hb67 hx27
            refine WO_pure tbok 51 [(2, .pointer (some ⟨b2, 0, none⟩)), (3, .pointer (some ⟨b3, 0, none⟩)), (4, .bool false), (5, .pointer (some ⟨b23, 0, none⟩)), (6, .int .i64 y16), (7, .int .i64 y24), (88, .bool true)] rfl ⟨rfl, rfl, rfl, rfl, rfl, rfl, rfl, trivial⟩ ?_
            refine WO_end ?_
            cases hx27
            refine WK.sub ?_ (WK.cls (fun _ h => h) hk28)
            exact ⟨rfl, rfl, rfl, rfl, rfl, rfl, rfl, trivial⟩
          · have hx27 := ifF hb67 hx27
            refine WO_pure tbok 1 [(2, .pointer (some ⟨b2, 0, none⟩)), (3, .pointer (some ⟨b3, 0, none⟩)), (4, .bool false), (5, .pointer (some ⟨b23, 0, none⟩)), (6, .int .i64 y16), (7, .int .i64 y24), (33, .bool true), (37, .bool false), (38, .pointer (some ⟨b3, 1, none⟩))] rfl ⟨rfl, rfl, rfl, rfl, rfl, rfl, rfl, rfl, rfl, trivial⟩ ?_
            refine WO_loadB tbok 1 rfl rfl rfl rfl (fun _ h => h) rfl rfl ?_
            refine WO_pure tbok 3 [(2, .pointer (some ⟨b2, 0, none⟩)), (3, .pointer (some ⟨b3, 0, none⟩)), (4, .bool false), (5, .pointer (some ⟨b23, 0, none⟩)), (6, .int .i64 y16), (7, .int .i64 y24), (33, .bool true), (42, .bool (decide (p1_1 < 0)))] rfl ⟨rfl, rfl, rfl, rfl, rfl, rfl, rfl, rfl, trivial⟩ ?_
            refine WO_split (d := 42) (b := decide (p1_1 < 0)) rfl (fun hb68 => ?_) (fun hb68 => ?_)
            · have hx27 := ifT hb68 hx27
              refine WO_pure tbok 46 [(2, .pointer (some ⟨b2, 0, none⟩)), (3, .pointer (some ⟨b3, 0, none⟩)), (4, .bool false), (5, .pointer (some ⟨b23, 0, none⟩)), (6, .int .i64 y16), (7, .int .i64 y24), (88, .bool true)] rfl ⟨rfl, rfl, rfl, rfl, rfl, rfl, rfl, trivial⟩ ?_
              refine WO_end ?_
              cases hx27
              refine WK.sub ?_ (WK.cls (fun _ h => h) hk28)
              exact ⟨rfl, rfl, rfl, rfl, rfl, rfl, rfl, trivial⟩
            · have hx27 := ifF hb68 hx27
              refine WO_pure tbok 1 [(2, .pointer (some ⟨b2, 0, none⟩)), (3, .pointer (some ⟨b3, 0, none⟩)), (4, .bool false), (5, .pointer (some ⟨b23, 0, none⟩)), (6, .int .i64 y16), (7, .int .i64 y24), (33, .bool true), (42, .bool false), (43, .pointer (some ⟨b3, 2, none⟩))] rfl ⟨rfl, rfl, rfl, rfl, rfl, rfl, rfl, rfl, rfl, trivial⟩ ?_
              refine WO_loadB tbok 1 rfl rfl rfl rfl (fun _ h => h) rfl rfl ?_
              refine WO_pure tbok 3 [(2, .pointer (some ⟨b2, 0, none⟩)), (3, .pointer (some ⟨b3, 0, none⟩)), (4, .bool false), (5, .pointer (some ⟨b23, 0, none⟩)), (6, .int .i64 y16), (7, .int .i64 y24), (33, .bool true), (47, .bool (decide (p1_2 < 1)))] rfl ⟨rfl, rfl, rfl, rfl, rfl, rfl, rfl, rfl, trivial⟩ ?_
              refine WO_split (d := 47) (b := decide (p1_2 < 1)) rfl (fun hb69 => ?_) (fun hb69 => ?_)
              · have hx27 := ifT hb69 hx27
                refine WO_pure tbok 41 [(2, .pointer (some ⟨b2, 0, none⟩)), (3, .pointer (some ⟨b3, 0, none⟩)), (4, .bool false), (5, .pointer (some ⟨b23, 0, none⟩)), (6, .int .i64 y16), (7, .int .i64 y24), (88, .bool true)] rfl ⟨rfl, rfl, rfl, rfl, rfl, rfl, rfl, trivial⟩ ?_
                refine WO_end ?_
                cases hx27
                refine WK.sub ?_ (WK.cls (fun _ h => h) hk28)
                exact ⟨rfl, rfl, rfl, rfl, rfl, rfl, rfl, trivial⟩
              · have hx27 := ifF hb69 hx27
                refine WO_pure tbok 1 [(2, .pointer (some ⟨b2, 0, none⟩)), (3, .pointer (some ⟨b3, 0, none⟩)), (4, .bool false), (5, .pointer (some ⟨b23, 0, none⟩)), (6, .int .i64 y16), (7, .int .i64 y24), (33, .bool true), (47, .bool false), (48, .pointer (some ⟨b3, 3, none⟩))] rfl ⟨rfl, rfl, rfl, rfl, rfl, rfl, rfl, rfl, rfl, trivial⟩ ?_
                refine WO_loadB tbok 1 rfl rfl rfl rfl (fun _ h => h) rfl rfl ?_
                refine WO_pure tbok 3 [(2, .pointer (some ⟨b2, 0, none⟩)), (3, .pointer (some ⟨b3, 0, none⟩)), (4, .bool false), (5, .pointer (some ⟨b23, 0, none⟩)), (6, .int .i64 y16), (7, .int .i64 y24), (33, .bool true), (52, .bool (decide (p1_3 < 1)))] rfl ⟨rfl, rfl, rfl, rfl, rfl, rfl, rfl, rfl, trivial⟩ ?_
                refine WO_split (d := 52) (b := decide (p1_3 < 1)) rfl (fun hb70 => ?_) (fun hb70 => ?_)
                · have hx27 := ifT hb70 hx27
                  refine WO_pure tbok 36 [(2, .pointer (some ⟨b2, 0, none⟩)), (3, .pointer (some ⟨b3, 0, none⟩)), (4, .bool false), (5, .pointer (some ⟨b23, 0, none⟩)), (6, .int .i64 y16), (7, .int .i64 y24), (88, .bool true)] rfl ⟨rfl, rfl, rfl, rfl, rfl, rfl, rfl, trivial⟩ ?_
                  refine WO_end ?_
                  cases hx27
                  refine WK.sub ?_ (WK.cls (fun _ h => h) hk28)
                  exact ⟨rfl, rfl, rfl, rfl, rfl, rfl, rfl, trivial⟩
                · have hx27 := ifF hb70 hx27
                  refine WO_pure tbok 1 [(2, .pointer (some ⟨b2, 0, none⟩)), (3, .pointer (some ⟨b3, 0, none⟩)), (4, .bool false), (5, .pointer (some ⟨b23, 0, none⟩)), (6, .int .i64 y16), (7, .int .i64 y24), (33, .bool true), (52, .bool false), (53, .pointer (some ⟨b3, 0, none⟩))] rfl ⟨rfl, rfl, rfl, rfl, rfl, rfl, rfl, rfl, rfl, trivial⟩ ?_
                  refine WO_loadB tbok 1 rfl rfl rfl rfl (fun _ h => h) rfl rfl ?_
                  refine WO_pure tbok 1 [(2, .pointer (some ⟨b2, 0, none⟩)), (3, .pointer (some ⟨b3, 0, none⟩)), (4, .bool false), (5, .pointer (some ⟨b23, 0, none⟩)), (6, .int .i64 y16), (7, .int .i64 y24), (33, .bool true), (52, .bool false), (54, .int .i64 p1_0), (55, .pointer (some ⟨b2, 0, none⟩))] rfl ⟨rfl, rfl, rfl, rfl, rfl, rfl, rfl, rfl, rfl, rfl, trivial⟩ ?_
                  refine WO_loadB tbok 0 rfl rfl rfl rfl (fun _ h => h) rfl rfl ?_
                  refine WO_pure tbok 4 [(2, .pointer (some ⟨b2, 0, none⟩)), (3, .pointer (some ⟨b3, 0, none⟩)), (4, .bool false), (5, .pointer (some ⟨b23, 0, none⟩)), (6, .int .i64 y16), (7, .int .i64 y24), (33, .bool true), (60, .bool (decide ((w64 (p0_0 - 1)) < p1_0)))] rfl ⟨rfl, rfl, rfl, rfl, rfl, rfl, rfl, rfl, trivial⟩ ?_
                  refine WO_split (d := 60) (b := decide ((w64 (p0_0 - 1)) < p1_0)) rfl (fun hb71 => ?_) (fun hb71 => ?_)
                  · have hx27 := ifT hb71 hx27
                    refine WO_pure tbok 28 [(2, .pointer (some ⟨b2, 0, none⟩)), (3, .pointer (some ⟨b3, 0, none⟩)), (4, .bool false), (5, .pointer (some ⟨b23, 0, none⟩)), (6, .int .i64 y16), (7, .int .i64 y24), (88, .bool true)] rfl ⟨rfl, rfl, rfl, rfl, rfl, rfl, rfl, trivial⟩ ?_
                    refine WO_end ?_
                    cases hx27
                    refine WK.sub ?_ (WK.cls (fun _ h => h) hk28)
                    exact ⟨rfl, rfl, rfl, rfl, rfl, rfl, rfl, trivial⟩
                  · have hx27 := ifF hb71 hx27
                    refine WO_pure tbok 1 [(2, .pointer (some ⟨b2, 0, none⟩)), (3, .pointer (some ⟨b3, 0, none⟩)), (4, .bool false), (5, .pointer (some ⟨b23, 0, none⟩)), (6, .int .i64 y16), (7, .int .i64 y24), (33, .bool true), (60, .bool false), (61, .pointer (some ⟨b3, 1, none⟩))] rfl ⟨rfl, rfl, rfl, rfl, rfl, rfl, rfl, rfl, rfl, trivial⟩ ?_
                    refine WO_loadB tbok 1 rfl rfl rfl rfl (fun _ h => h) rfl rfl ?_
                    refine WO_pure tbok 1 [(2, .pointer (some ⟨b2, 0, none⟩)), (3, .pointer (some ⟨b3, 0, none⟩)), (4, .bool false), (5, .pointer (some ⟨b23, 0, none⟩)), (6, .int .i64 y16), (7, .int .i64 y24), (33, .bool true), (60, .bool false), (62, .int .i64 p1_1), (63, .pointer (some ⟨b2, 1, none⟩))] rfl ⟨rfl, rfl, rfl, rfl, rfl, rfl, rfl, rfl, rfl, rfl, trivial⟩ ?_
                    refine WO_loadB tbok 0 rfl rfl rfl rfl (fun _ h => h) rfl rfl ?_
                    refine WO_pure tbok 4 [(2, .pointer (some ⟨b2, 0, none⟩)), (3, .pointer (some ⟨b3, 0, none⟩)), (4, .bool false), (5, .pointer (some ⟨b23, 0, none⟩)), (6, .int .i64 y16), (7, .int .i64 y24), (33, .bool true), (68, .bool (decide ((w64 (p0_1 - 1)) < p1_1)))] rfl ⟨rfl, rfl, rfl, rfl, rfl, rfl, rfl, rfl, trivial⟩ ?_
                    refine WO_split (d := 68) (b := decide ((w64 (p0_1 - 1)) < p1_1)) rfl (fun hb72 => ?_) (fun hb72 => ?_)
                    · have hx27 := ifT hb72 hx27
                      refine WO_pure tbok 20 [(2, .pointer (some ⟨b2, 0, none⟩)), (3, .pointer (some ⟨b3, 0, none⟩)), (4, .bool false), (5, .pointer (some ⟨b23, 0, none⟩)), (6, .int .i64 y16), (7, .int .i64 y24), (88, .bool true)] rfl ⟨rfl, rfl, rfl, rfl, rfl, rfl, rfl, trivial⟩ ?_
                      refine WO_end ?_
                      cases hx27
                      refine WK.sub ?_ (WK.cls (fun _ h => h) hk28)
                      exact ⟨rfl, rfl, rfl, rfl, rfl, rfl, rfl, trivial⟩
                    · have hx27 := ifF hb72 hx27
                      refine WO_pure tbok 1 [(2, .pointer (some ⟨b2, 0, none⟩)), (3, .pointer (some ⟨b3, 0, none⟩)), (4, .bool false), (5, .pointer (some ⟨b23, 0, none⟩)), (6, .int .i64 y16), (7, .int .i64 y24), (33, .bool true), (68, .bool false), (69, .pointer (some ⟨b3, 2, none⟩))] rfl ⟨rfl, rfl, rfl, rfl, rfl, rfl, rfl, rfl, rfl, trivial⟩ ?_
                      refine WO_loadB tbok 1 rfl rfl rfl rfl (fun _ h => h) rfl rfl ?_
                      refine WO_pure tbok 1 [(2, .pointer (some ⟨b2, 0, none⟩)), (3, .pointer (some ⟨b3, 0, none⟩)), (4, .bool false), (5, .pointer (some ⟨b23, 0, none⟩)), (6, .int .i64 y16), (7, .int .i64 y24), (33, .bool true), (68, .bool false), (70, .int .i64 p1_2), (71, .pointer (some ⟨b2, 0, none⟩))] rfl ⟨rfl, rfl, rfl, rfl, rfl, rfl, rfl, rfl, rfl, rfl, trivial⟩ ?_
                      refine WO_loadB tbok 0 rfl rfl rfl rfl (fun _ h => h) rfl rfl ?_
                      refine WO_pure tbok 1 [(2, .pointer (some ⟨b2, 0, none⟩)), (3, .pointer (some ⟨b3, 0, none⟩)), (4, .bool false), (5, .pointer (some ⟨b23, 0, none⟩)), (6, .int .i64 y16), (7, .int .i64 y24), (33, .bool true), (68, .bool false), (70, .int .i64 p1_2), (72, .int .i64 p0_0), (73, .pointer (some ⟨b3, 0, none⟩))] rfl ⟨rfl, rfl, rfl, rfl, rfl, rfl, rfl, rfl, rfl, rfl, rfl, trivial⟩ ?_
                      refine WO_loadB tbok 1 rfl rfl rfl rfl (fun _ h => h) rfl rfl ?_
                      refine WO_pure tbok 4 [(2, .pointer (some ⟨b2, 0, none⟩)), (3, .pointer (some ⟨b3, 0, none⟩)), (4, .bool false), (5, .pointer (some ⟨b23, 0, none⟩)), (6, .int .i64 y16), (7, .int .i64 y24), (33, .bool true), (78, .bool (decide ((w64 (p0_0 - p1_0)) < p1_2)))] rfl ⟨rfl, rfl, rfl, rfl, rfl, rfl, rfl, rfl, trivial⟩ ?_
                      refine WO_split (d := 78) (b := decide ((w64 (p0_0 - p1_0)) < p1_2)) rfl (fun hb73 => ?_) (fun hb73 => ?_)
                      · have hx27 := ifT hb73 hx27
                        refine WO_pure tbok 10 [(2, .pointer (some ⟨b2, 0, none⟩)), (3, .pointer (some ⟨b3, 0, none⟩)), (4, .bool false), (5, .pointer (some ⟨b23, 0, none⟩)), (6, .int .i64 y16), (7, .int .i64 y24), (88, .bool true)] rfl ⟨rfl, rfl, rfl, rfl, rfl, rfl, rfl, trivial⟩ ?_
                        refine WO_end ?_
                        cases hx27
                        refine WK.sub ?_ (WK.cls (fun _ h => h) hk28)
                        exact ⟨rfl, rfl, rfl, rfl, rfl, rfl, rfl, trivial⟩
                      · have hx27 := ifF hb73 hx27
                        refine WO_pure tbok 1 [(2, .pointer (some ⟨b2, 0, none⟩)), (3, .pointer (some ⟨b3, 0, none⟩)), (4, .bool false), (5, .pointer (some ⟨b23, 0, none⟩)), (6, .int .i64 y16), (7, .int .i64 y24), (33, .bool true), (78, .bool false), (79, .pointer (some ⟨b3, 3, none⟩))] rfl ⟨rfl, rfl, rfl, rfl, rfl, rfl, rfl, rfl, rfl, trivial⟩ ?_
                        refine WO_loadB tbok 1 rfl rfl rfl rfl (fun _ h => h) rfl rfl ?_
                        refine WO_pure tbok 1 [(2, .pointer (some ⟨b2, 0, none⟩)), (3, .pointer (some ⟨b3, 0, none⟩)), (4, .bool false), (5, .pointer (some ⟨b23, 0, none⟩)), (6, .int .i64 y16), (7, .int .i64 y24), (33, .bool true), (78, .bool false), (80, .int .i64 p1_3), (81, .pointer (some ⟨b2, 1, none⟩))] rfl ⟨rfl, rfl, rfl, rfl, rfl, rfl, rfl, rfl, rfl, rfl, trivial⟩ ?_
                        refine WO_loadB tbok 0 rfl rfl rfl rfl (fun _ h => h) rfl rfl ?_
                        refine WO_pure tbok 1 [(2, .pointer (some ⟨b2, 0, none⟩)), (3, .pointer (some ⟨b3, 0, none⟩)), (4, .bool false), (5, .pointer (some ⟨b23, 0, none⟩)), (6, .int .i64 y16), (7, .int .i64 y24), (33, .bool true), (78, .bool false), (80, .int .i64 p1_3), (82, .int .i64 p0_1), (83, .pointer (some ⟨b3, 1, none⟩))] rfl ⟨rfl, rfl, rfl, rfl, rfl, rfl, rfl, rfl, rfl, rfl, rfl, trivial⟩ ?_
                        refine WO_loadB tbok 1 rfl rfl rfl rfl (fun _ h => h) rfl rfl ?_
                        refine WO_pure tbok 4 [(2, .pointer (some ⟨b2, 0, none⟩)), (3, .pointer (some ⟨b3, 0, none⟩)), (4, .bool false), (5, .pointer (some ⟨b23, 0, none⟩)), (6, .int .i64 y16), (7, .int .i64 y24), (88, .bool (decide ((w64 (p0_1 - p1_1)) < p1_3)))] rfl ⟨rfl, rfl, rfl, rfl, rfl, rfl, rfl, trivial⟩ ?_
                        refine WO_end ?_
                        cases hx27
                        refine WK.sub ?_ (WK.cls (fun _ h => h) hk28)
                        exact ⟨rfl, rfl, rfl, rfl, rfl, rfl, rfl, trivial⟩
        · have hx27 := ifF hb66 hx27
          refine WO_pure tbok 55 [(2, .pointer (some ⟨b2, 0, none⟩)), (3, .pointer (some ⟨b3, 0, none⟩)), (4, .bool false), (5, .pointer (some ⟨b23, 0, none⟩)), (6, .int .i64 y16), (7, .int .i64 y24), (88, .bool false)] rfl ⟨rfl, rfl, rfl, rfl, rfl, rfl, rfl, trivial⟩ ?_
          refine WO_end ?_
          cases hx27
          refine WK.sub ?_ (WK.cls (fun _ h => h) hk28)
          exact ⟨rfl, rfl, rfl, rfl, rfl, rfl, rfl, trivial⟩
theorem raster_At_walk {m : Mu} {p0_0 : Int} {p0_1 : Int} {p0_2 : Int} {p0_3 : List Int} {p1 : Int} {p2 : Int} {a_p0_3 : Option Addr} {q_p0_3 c_p0_3 : Nat} (h_p0_3 : SlR (FE (I1 .i64)) 1 m (.slice a_p0_3 q_p0_3 c_p0_3) p0_3) {r : Int × Int} (hm : raster_At p0_0 p0_1 p0_2 p0_3 p1 p2 = some r) :
    Go.E.Spec Try.prog 41 [.agg #[.int .i64 p0_0, .int .i64 p0_1, .int .i64 p0_2, .slice a_p0_3 q_p0_3 c_p0_3], .int .i64 p1, .int .i64 p2] m (fun v _ _ => v = .tuple #[.int .i64 r.1, .int .i64 r.2]) := by
  refine Spec_enter Try.func41 rfl rfl rfl (fun w0 => ?_)
  refine WK.sub (e' := [(0, .agg #[.int .i64 p0_0, .int .i64 p0_1, .int .i64 p0_2, .slice a_p0_3 q_p0_3 c_p0_3]), (1, .int .i64 p1), (2, .int .i64 p2)]) ⟨rfl, rfl, rfl, trivial⟩ ?_
  obtain rfl := SlR.qlen h_p0_3
  refine WK.sub (e' := [(0, .agg #[.int .i64 p0_0, .int .i64 p0_1, .int .i64 p0_2, .slice a_p0_3 p0_3.length c_p0_3]), (1, .int .i64 p1), (2, .int .i64 p2)]) ⟨rfl, rfl, rfl, trivial⟩ ?_
  unfold raster_At at hm
  refine WK_seq ?_
  refine WK_region ?_
  refine WO_box [.int .i64 p0_0, .int .i64 p0_1, .int .i64 p0_2, .slice a_p0_3 p0_3.length c_p0_3] rfl rfl trivial rfl rfl rfl (fun b2 => ?_)
  refine WO.cls (C' := St w0 m m [[⟨b2, 24, [.int .i64 p0_0, .int .i64 p0_1, .int .i64 p0_2, .slice a_p0_3 p0_3.length c_p0_3]⟩]]) (fun _ h => h) ?_
  refine WO_pure tbok 2 [(1, .int .i64 p1), (2, .int .i64 p2), (3, .pointer (some ⟨b2, 0, none⟩)), (6, .int .i64 0), (7, .int .i64 0)] rfl ⟨rfl, rfl, rfl, rfl, rfl, trivial⟩ ?_
  refine WO_end ?_
  refine WK_seq ?_
  refine WK_seq ?_
  refine WK_region ?_
  refine WO_loadB tbok 0 rfl rfl rfl rfl (fun _ h => h) rfl rfl ?_
  obtain ⟨y3, hc4, hm⟩ := bind_some hm
  refine WO_call0 (.int .i64 y3) rfl rfl trivial rfl rfl rfl rfl St_closed ⟨20, #[], #[], rfl, callable_20, fun w hw => ⟨_, hw.sat, raster_Check_walk h_p0_3 hc4⟩⟩ ?_
  refine WO_pure tbok 1 [(1, .int .i64 p1), (2, .int .i64 p2), (3, .pointer (some ⟨b2, 0, none⟩)), (6, .int .i64 0), (7, .int .i64 0), (8, .int .i64 y3)] rfl ⟨rfl, rfl, rfl, rfl, rfl, rfl, trivial⟩ ?_
  refine WO_end ?_
  refine WK_seq ?_
  refine WK_region ?_
  refine WO_pure tbok 2 [(1, .int .i64 p1), (2, .int .i64 p2), (3, .pointer (some ⟨b2, 0, none⟩)), (6, .int .i64 0), (7, .int .i64 0), (8, .int .i64 y3), (12, .bool (y3 != 0))] rfl ⟨rfl, rfl, rfl, rfl, rfl, rfl, rfl, trivial⟩ ?_
  refine WO_end ?_
  refine WK_cond (b := y3 != 0) rfl (fun hb5 => ?_) (fun hb5 => ?_)
  · have hm := ifT hb5 hm
    refine WK_seq ?_
    refine WK_region ?_
    refine WO_pure tbok 3 [(1, .int .i64 p1), (2, .int .i64 p2), (3, .pointer (some ⟨b2, 0, none⟩)), (6, .int .i64 0), (7, .int .i64 y3)] rfl ⟨rfl, rfl, rfl, rfl, rfl, trivial⟩ ?_
    refine WO_end ?_
    cases hm
    exact WK_ret (ret_out (L := []) (RLc_tmp rfl (RLc_tmp rfl RLc_nil)) (List.nil_sublist _) rfl)
  · have hm := ifF hb5 hm
    refine WK_skip ?_
    refine WK_seq ?_
    refine WK_seq ?_
    refine WK_region ?_
    refine WO_loadB tbok 0 rfl rfl rfl rfl (fun _ h => h) rfl rfl ?_
    refine WO_pure tbok 2 [(1, .int .i64 p1), (2, .int .i64 p2), (3, .pointer (some ⟨b2, 0, none⟩)), (6, .int .i64 0), (7, .int .i64 0), (14, .agg #[.int .i64 p0_0, .int .i64 p0_1, .int .i64 p0_2, .slice a_p0_3 p0_3.length c_p0_3]), (15, .int .i64 p1), (16, .int .i64 p2)] rfl ⟨rfl, rfl, rfl, rfl, rfl, rfl, rfl, rfl, trivial⟩ ?_
    obtain ⟨y6, hc7, hm⟩ := bind_some hm
    refine WO_call0 (.bool y6) rfl rfl trivial rfl rfl rfl rfl St_closed ⟨62, #[], #[], rfl, callable_62, fun w hw => ⟨_, hw.sat, raster_has_walk h_p0_3 hc7⟩⟩ ?_
    refine WO_pure tbok 1 [(1, .int .i64 p1), (2, .int .i64 p2), (3, .pointer (some ⟨b2, 0, none⟩)), (6, .int .i64 0), (7, .int .i64 0), (18, .bool (!y6))] rfl ⟨rfl, rfl, rfl, rfl, rfl, rfl, trivial⟩ ?_
    refine WO_end ?_
    refine WK_cond (b := !y6) rfl (fun hb8 => ?_) (fun hb8 => ?_)
    · have hm := ifT hb8 hm
      refine WK_seq ?_
      refine WK_region ?_
      refine WO_pure tbok 2 [(1, .int .i64 p1), (2, .int .i64 p2), (3, .pointer (some ⟨b2, 0, none⟩)), (6, .int .i64 0), (7, .int .i64 2)] rfl ⟨rfl, rfl, rfl, rfl, rfl, trivial⟩ ?_
      refine WO_end ?_
      cases hm
      exact WK_ret (ret_out (L := []) (RLc_tmp rfl (RLc_tmp rfl RLc_nil)) (List.nil_sublist _) rfl)
    · have hm := ifF hb8 hm
      refine WK_skip ?_
      refine WK_seq ?_
      refine WK_region ?_
      refine WO_loadB tbok 0 rfl rfl rfl rfl (fun _ h => h) rfl rfl ?_
      refine WO_pure tbok 2 [(6, .int .i64 0), (7, .int .i64 0), (19, .agg #[.int .i64 p0_0, .int .i64 p0_1, .int .i64 p0_2, .slice a_p0_3 p0_3.length c_p0_3]), (20, .int .i64 p1), (21, .int .i64 p2)] rfl ⟨rfl, rfl, rfl, rfl, rfl, trivial⟩ ?_
      obtain ⟨y9, hc10, hm⟩ := bind_some hm
      refine WO_call0 (.int .i64 y9) rfl rfl trivial rfl rfl rfl rfl St_closed ⟨50, #[], #[], rfl, callable_50, fun w hw => ⟨_, hw.sat, raster_at_walk h_p0_3 hc10⟩⟩ ?_
      refine WO_pure tbok 2 [(6, .int .i64 y9), (7, .int .i64 0)] rfl ⟨rfl, rfl, trivial⟩ ?_
      refine WO_end ?_
      cases hm
      exact WK_ret (ret_out (L := []) (RLc_tmp rfl (RLc_tmp rfl RLc_nil)) (List.nil_sublist _) rfl)
def slices_Clone_sint_Q (r : List Int) : Value → List Ent → Prop := fun v L => ∃ (a0 : Option Addr) (q0 c0 : Nat), v = .slice a0 q0 c0 ∧ OwnE 3 1 (I1 .i64) (.slice a0 q0 c0) r L
theorem slices_Clone_sint_walk {m : Mu} {p0 : List Int} {a_p0 : Option Addr} {q_p0 c_p0 : Nat} (h_p0 : SlR (FE (I1 .i64)) 1 m (.slice a_p0 q_p0 c_p0) p0) {r : List Int} (hm : slices_Clone_sint p0 = some r) :
    Go.E.Spec Try.prog 64 [.slice a_p0 q_p0 c_p0] m (fun v _ L => slices_Clone_sint_Q r v L) := by
  refine Spec_enter Try.func64 rfl rfl rfl (fun w0 => ?_)
  refine WK.sub (e' := [(0, .slice a_p0 q_p0 c_p0)]) ⟨rfl, trivial⟩ ?_
  obtain rfl := SlR.qlen h_p0
  refine WK.sub (e' := [(0, .slice a_p0 p0.length c_p0)]) ⟨rfl, trivial⟩ ?_
  cases a_p0 with
  | none =>
    obtain ⟨hx, _, hc⟩ := SlR.none_nil h_p0
    subst hx
    subst hc
    unfold slices_Clone_sint at hm
    obtain ⟨_, hm⟩ := chk_some hm
    refine WK_seq ?_
    refine WK_region ?_
    refine WO_pure tbok 1 [(0, .slice none 0 0), (2, .slice none 0 0)] rfl ⟨rfl, rfl, trivial⟩ ?_
    refine WO_end ?_
    refine WK_seq ?_
    refine WK_seq ?_
    refine WK_region ?_
    refine WO_pure tbok 1 [(0, .slice none 0 0), (2, .slice none 0 0), (3, .slice none 0 0)] rfl ⟨rfl, rfl, rfl, trivial⟩ ?_
    refine WO_eqnil tbok rfl rfl rfl rfl rfl rfl rfl ?_
    refine WO_end ?_
    refine WK_condT rfl ?_
    refine WK_seq ?_
    refine WK_region ?_
    refine WO_pure tbok 1 [(0, .slice none 0 0), (2, .slice none 0 0)] rfl ⟨rfl, rfl, trivial⟩ ?_
    refine WO_end ?_
    cases hm
    exact WK_ret (ret_out (L := []) (RLc_tmp rfl RLc_nil) (List.nil_sublist _) ⟨none, 0, 0, rfl, (OwnE.nil none)⟩)
  | some ad =>
    unfold slices_Clone_sint at hm
    refine WK_seq ?_
    refine WK_region ?_
    refine WO_pure tbok 1 [(0, .slice (some ad) p0.length c_p0), (2, .slice none 0 0)] rfl ⟨rfl, rfl, trivial⟩ ?_
    refine WO_end ?_
    refine WK_seq ?_
    refine WK_seq ?_
    refine WK_region ?_
    refine WO_pure tbok 1 [(0, .slice (some ad) p0.length c_p0), (2, .slice none 0 0), (3, .slice (some ad) p0.length c_p0)] rfl ⟨rfl, rfl, rfl, trivial⟩ ?_
    refine WO_eqnil tbok rfl rfl rfl rfl rfl rfl rfl ?_
    refine WO_end ?_
    refine WK_condF rfl ?_
    refine WK_skip ?_
    refine WK_seq ?_
    refine WK_region ?_
    refine WO_bslice (E := (I1 .i64)) tbok (fun _ => rfl) (by decide) [] ([] : List Int) rfl rfl trivial rfl rfl rfl rfl rfl rfl rfl rfl rfl rfl rfl rfl (fun b2 hb2 => ?_)
    refine WO.cls (C' := St w0 m m [[⟨b2, 3, ([] : List Int).flatMap (I1 .i64)⟩]]) (fun _ h => h) ?_
    refine WO_pure tbok 1 [(2, .slice none 0 0), (5, .slice (some ⟨b2, 0, none⟩) 0 0), (6, .slice (some ad) p0.length c_p0)] rfl ⟨rfl, rfl, rfl, trivial⟩ ?_
    obtain ⟨hc4, hm⟩ := chk_some hm
    refine WO_appendS (E := (I1 .i64)) tbok (fun _ => rfl) (by decide) (fun _ => rfl) 0 p0 rfl rfl rfl rfl rfl rfl rfl rfl rfl rfl rfl rfl hb2 rfl (fun w hw => ⟨_, hw.sat, h_p0⟩) (ap_ok (by decide) hc4) (ap_max hc4) (fun a5 c6 L7 hL7 => ?_)
    refine WO.cls (C' := St w0 m m [L7]) (fun _ h => h) ?_
    refine WO_pure tbok 1 [(2, .slice a5 ((([] : List Int) ++ p0).length) c6)] rfl ⟨rfl, trivial⟩ ?_
    refine WO_end ?_
    cases hm
    exact WK_ret (ret_out (L := L7) (RLc_tmp rfl RLc_nil) (seg_sub 0 rfl) ⟨a5, ((([] : List Int) ++ p0).length), c6, rfl, hL7⟩)
def raster_Set_Q (r : Int × Int × Int × List Int × Int) : Value → List Ent → Prop := fun v L => ∃ (a0 : Option Addr) (q0 c0 : Nat), v = .tuple #[.agg #[.int .i64 r.1, .int .i64 r.2.1, .int .i64 r.2.2.1, .slice a0 q0 c0], .int .i64 r.2.2.2.2] ∧ OwnE 3 1 (I1 .i64) (.slice a0 q0 c0) r.2.2.2.1 L
theorem raster_Set_walk {m : Mu} {p0_0 : Int} {p0_1 : Int} {p0_2 : Int} {p0_3 : List Int} {p1 : Int} {p2 : Int} {p3 : Int} {a_p0_3 : Option Addr} {q_p0_3 c_p0_3 : Nat} (h_p0_3 : SlR (FE (I1 .i64)) 1 m (.slice a_p0_3 q_p0_3 c_p0_3) p0_3) {r : Int × Int × Int × List Int × Int} (hm : raster_Set p0_0 p0_1 p0_2 p0_3 p1 p2 p3 = some r) :
    Go.E.Spec Try.prog 42 [.agg #[.int .i64 p0_0, .int .i64 p0_1, .int .i64 p0_2, .slice a_p0_3 q_p0_3 c_p0_3], .int .i64 p1, .int .i64 p2, .int .i64 p3] m (fun v _ L => raster_Set_Q r v L) := by
  refine Spec_enter Try.func42 rfl rfl rfl (fun w0 => ?_)
  refine WK.sub (e' := [(0, .agg #[.int .i64 p0_0, .int .i64 p0_1, .int .i64 p0_2, .slice a_p0_3 q_p0_3 c_p0_3]), (1, .int .i64 p1), (2, .int .i64 p2), (3, .int .i64 p3)]) ⟨rfl, rfl, rfl, rfl, trivial⟩ ?_
  obtain rfl := SlR.qlen h_p0_3
  refine WK.sub (e' := [(0, .agg #[.int .i64 p0_0, .int .i64 p0_1, .int .i64 p0_2, .slice a_p0_3 p0_3.length c_p0_3]), (1, .int .i64 p1), (2, .int .i64 p2), (3, .int .i64 p3)]) ⟨rfl, rfl, rfl, rfl, trivial⟩ ?_
  unfold raster_Set at hm
  refine WK_seq ?_
  refine WK_region ?_
  refine WO_box [.int .i64 p0_0, .int .i64 p0_1, .int .i64 p0_2, .slice a_p0_3 p0_3.length c_p0_3] rfl rfl trivial rfl rfl rfl (fun b2 => ?_)
  refine WO.cls (C' := St w0 m m [[⟨b2, 24, [.int .i64 p0_0, .int .i64 p0_1, .int .i64 p0_2, .slice a_p0_3 p0_3.length c_p0_3]⟩]]) (fun _ h => h) ?_
  refine WO_alloc tbok [.int .i64 0, .int .i64 0, .int .i64 0, .slice none 0 0] rfl rfl trivial rfl rfl rfl rfl (fun b3 => ?_)
  refine WO.cls (C' := St w0 m m [[⟨b2, 24, [.int .i64 p0_0, .int .i64 p0_1, .int .i64 p0_2, .slice a_p0_3 p0_3.length c_p0_3]⟩], [⟨b3, 24, [.int .i64 0, .int .i64 0, .int .i64 0, .slice none 0 0]⟩]]) (fun _ h => h) ?_
  refine WO_pure tbok 1 [(1, .int .i64 p1), (2, .int .i64 p2), (3, .int .i64 p3), (4, .pointer (some ⟨b2, 0, none⟩)), (8, .pointer (some ⟨b3, 0, none⟩)), (9, .int .i64 0)] rfl ⟨rfl, rfl, rfl, rfl, rfl, rfl, trivial⟩ ?_
  refine WO_end ?_
  refine WK_seq ?_
  refine WK_seq ?_
  refine WK_region ?_
  refine WO_loadB tbok 0 rfl rfl rfl rfl (fun _ h => h) rfl rfl ?_
  obtain ⟨y4, hc5, hm⟩ := bind_some hm
  refine WO_call0 (.int .i64 y4) rfl rfl trivial rfl rfl rfl rfl St_closed ⟨20, #[], #[], rfl, callable_20, fun w hw => ⟨_, hw.sat, raster_Check_walk h_p0_3 hc5⟩⟩ ?_
  refine WO_pure tbok 1 [(1, .int .i64 p1), (2, .int .i64 p2), (3, .int .i64 p3), (4, .pointer (some ⟨b2, 0, none⟩)), (8, .pointer (some ⟨b3, 0, none⟩)), (9, .int .i64 0), (10, .int .i64 y4)] rfl ⟨rfl, rfl, rfl, rfl, rfl, rfl, rfl, trivial⟩ ?_
  refine WO_end ?_
  refine WK_seq ?_
  refine WK_region ?_
  refine WO_pure tbok 2 [(1, .int .i64 p1), (2, .int .i64 p2), (3, .int .i64 p3), (4, .pointer (some ⟨b2, 0, none⟩)), (8, .pointer (some ⟨b3, 0, none⟩)), (9, .int .i64 0), (10, .int .i64 y4), (14, .bool (y4 != 0))] rfl ⟨rfl, rfl, rfl, rfl, rfl, rfl, rfl, rfl, trivial⟩ ?_
  refine WO_end ?_
  refine WK_cond (b := y4 != 0) rfl (fun hb6 => ?_) (fun hb6 => ?_)
  · have hm := ifT hb6 hm
    refine WK_seq ?_
    refine WK_region ?_
    refine WO_pure tbok 2 [(1, .int .i64 p1), (2, .int .i64 p2), (3, .int .i64 p3), (4, .pointer (some ⟨b2, 0, none⟩)), (8, .pointer (some ⟨b3, 0, none⟩)), (9, .int .i64 0), (15, .agg #[.int .i64 0, .int .i64 0, .int .i64 0, .slice none 0 0]), (16, .int .i64 y4)] rfl ⟨rfl, rfl, rfl, rfl, rfl, rfl, rfl, rfl, trivial⟩ ?_
    refine WO_storeB tbok 1 [.int .i64 0, .int .i64 0, .int .i64 0, .slice none 0 0] rfl rfl rfl rfl rfl rfl rfl ?_
    refine WO.cls (C' := St w0 m m [[⟨b2, 24, [.int .i64 p0_0, .int .i64 p0_1, .int .i64 p0_2, .slice a_p0_3 p0_3.length c_p0_3]⟩], [⟨b3, 24, [.int .i64 0, .int .i64 0, .int .i64 0, .slice none 0 0]⟩]]) (fun _ h => h) ?_
    refine WO_pure tbok 1 [(1, .int .i64 p1), (2, .int .i64 p2), (3, .int .i64 p3), (4, .pointer (some ⟨b2, 0, none⟩)), (8, .pointer (some ⟨b3, 0, none⟩)), (9, .int .i64 y4)] rfl ⟨rfl, rfl, rfl, rfl, rfl, rfl, trivial⟩ ?_
    refine WO_end ?_
    cases hm
    exact WK_ret (ret_out (L := []) (RLc_cell tbok 1 rfl rfl rfl (RLc_tmp rfl RLc_nil)) (List.nil_sublist _) ⟨none, 0, 0, rfl, (OwnE.nil none)⟩)
  · have hm := ifF hb6 hm
    refine WK_skip ?_
    refine WK_seq ?_
    refine WK_seq ?_
    obtain ⟨s7, hx8, hm⟩ := bind_some hm
    refine WK_meet [(1, .int .i64 p1), (2, .int .i64 p2), (3, .int .i64 p3), (4, .pointer (some ⟨b2, 0, none⟩)), (8, .pointer (some ⟨b3, 0, none⟩)), (9, .int .i64 0), (31, .bool s7)] (St w0 m m [[⟨b2, 24, [.int .i64 p0_0, .int .i64 p0_1, .int .i64 p0_2, .slice a_p0_3 p0_3.length c_p0_3]⟩], [⟨b3, 24, [.int .i64 0, .int .i64 0, .int .i64 0, .slice none 0 0]⟩]]) ?_ (fun hk9 => ?_)
    · refine WK_cond (b := s7) rfl (fun hb10 => ?_) (fun hb10 => ?_)
      · have hm := ifT hb10 hm
        refine WK_seq ?_
        refine WK_region ?_
        refine WO_pure tbok 1 [(1, .int .i64 p1), (2, .int .i64 p2), (3, .int .i64 p3), (4, .pointer (some ⟨b2, 0, none⟩)), (8, .pointer (some ⟨b3, 0, none⟩)), (9, .int .i64 0), (32, .agg #[.int .i64 0, .int .i64 0, .int .i64 0, .slice none 0 0])] rfl ⟨rfl, rfl, rfl, rfl, rfl, rfl, rfl, trivial⟩ ?_
        refine WO_storeB tbok 1 [.int .i64 0, .int .i64 0, .int .i64 0, .slice none 0 0] rfl rfl rfl rfl rfl rfl rfl ?_
        refine WO.cls (C' := St w0 m m [[⟨b2, 24, [.int .i64 p0_0, .int .i64 p0_1, .int .i64 p0_2, .slice a_p0_3 p0_3.length c_p0_3]⟩], [⟨b3, 24, [.int .i64 0, .int .i64 0, .int .i64 0, .slice none 0 0]⟩]]) (fun _ h => h) ?_
        refine WO_pure tbok 1 [(1, .int .i64 p1), (2, .int .i64 p2), (3, .int .i64 p3), (4, .pointer (some ⟨b2, 0, none⟩)), (8, .pointer (some ⟨b3, 0, none⟩)), (9, .int .i64 2)] rfl ⟨rfl, rfl, rfl, rfl, rfl, rfl, trivial⟩ ?_
        refine WO_end ?_
        cases hm
        exact WK_ret (ret_out (L := []) (RLc_cell tbok 1 rfl rfl rfl (RLc_tmp rfl RLc_nil)) (List.nil_sublist _) ⟨none, 0, 0, rfl, (OwnE.nil none)⟩)
      · have hm := ifF hb10 hm
        refine WK_skip ?_
        refine WK_seq ?_
        refine WK_region ?_
        refine WO_pure tbok 1 [(1, .int .i64 p1), (2, .int .i64 p2), (3, .int .i64 p3), (4, .pointer (some ⟨b2, 0, none⟩)), (8, .pointer (some ⟨b3, 0, none⟩)), (9, .int .i64 0), (33, .pointer (some ⟨b2, 3, none⟩))] rfl ⟨rfl, rfl, rfl, rfl, rfl, rfl, rfl, trivial⟩ ?_
        refine WO_loadB tbok 0 rfl rfl rfl rfl (fun _ h => h) rfl rfl ?_
        obtain ⟨y11, hc12, hm⟩ := bind_some hm
        refine WO_call1 (slices_Clone_sint_Q y11) rfl rfl trivial rfl rfl rfl rfl ⟨64, #[], #[], rfl, callable_64, fun w hw => ⟨_, hw.sat, slices_Clone_sint_walk h_p0_3 hc12⟩⟩ (fun v17 L16 hq => ?_)
        obtain ⟨a13, qa13, c14, rfl, hL16⟩ := hq
        obtain rfl := OwnE.qlen hL16
        refine WO.cls (C' := St w0 m m [[⟨b2, 24, [.int .i64 p0_0, .int .i64 p0_1, .int .i64 p0_2, .slice a_p0_3 p0_3.length c_p0_3]⟩], [⟨b3, 24, [.int .i64 0, .int .i64 0, .int .i64 0, .slice none 0 0]⟩], L16]) (fun _ h => h) ?_
        refine WO_pure tbok 1 [(1, .int .i64 p1), (2, .int .i64 p2), (3, .int .i64 p3), (4, .pointer (some ⟨b2, 0, none⟩)), (8, .pointer (some ⟨b3, 0, none⟩)), (9, .int .i64 0), (35, .slice a13 ((y11).length) c14), (36, .pointer (some ⟨b2, 3, none⟩))] rfl ⟨rfl, rfl, rfl, rfl, rfl, rfl, rfl, rfl, trivial⟩ ?_
        refine WO_storeB tbok 0 [.int .i64 p0_0, .int .i64 p0_1, .int .i64 p0_2, .slice a13 ((y11).length) c14] rfl rfl rfl rfl rfl rfl rfl ?_
        refine WO.cls (C' := St w0 m m [[⟨b2, 24, [.int .i64 p0_0, .int .i64 p0_1, .int .i64 p0_2, .slice a13 ((y11).length) c14]⟩], [⟨b3, 24, [.int .i64 0, .int .i64 0, .int .i64 0, .slice none 0 0]⟩], L16]) (fun _ h => h) ?_
        refine WO_end ?_
        refine WK_seq ?_
        refine WK_region ?_
        refine WO_pure tbok 1 [(1, .int .i64 p1), (2, .int .i64 p2), (3, .int .i64 p3), (4, .pointer (some ⟨b2, 0, none⟩)), (8, .pointer (some ⟨b3, 0, none⟩)), (9, .int .i64 0), (37, .pointer (some ⟨b2, 3, none⟩))] rfl ⟨rfl, rfl, rfl, rfl, rfl, rfl, rfl, trivial⟩ ?_
        refine WO_loadB tbok 0 rfl rfl rfl rfl (fun _ h => h) rfl rfl ?_
        refine WO_pure tbok 2 [(1, .int .i64 p1), (3, .int .i64 p3), (4, .pointer (some ⟨b2, 0, none⟩)), (8, .pointer (some ⟨b3, 0, none⟩)), (9, .int .i64 0), (38, .slice a13 ((y11).length) c14), (39, .int .i64 p2), (40, .pointer (some ⟨b2, 0, none⟩))] rfl ⟨rfl, rfl, rfl, rfl, rfl, rfl, rfl, rfl, trivial⟩ ?_
        refine WO_loadB tbok 0 rfl rfl rfl rfl (fun _ h => h) rfl rfl ?_
        refine WO_pure tbok 4 [(4, .pointer (some ⟨b2, 0, none⟩)), (8, .pointer (some ⟨b3, 0, none⟩)), (9, .int .i64 0), (38, .slice a13 ((y11).length) c14), (44, .int .i64 (w64 ((w64 (p2 * p0_0)) + p1))), (45, .int .i64 p3)] rfl ⟨rfl, rfl, rfl, rfl, rfl, rfl, trivial⟩ ?_
        obtain ⟨hc18, hm⟩ := chk_some hm
        refine WO_index tbok rfl rfl rfl rfl rfl rfl rfl rfl (OwnE.addr hL16) (by simpa using hc18) ?_
        refine WO_storeO (E := (I1 .i64)) tbok (fun _ => rfl) 2 p3 rfl rfl rfl rfl rfl hL16 rfl (by simpa using idx_lt hc18) rfl rfl rfl rfl (fun L19 hL19 => ?_)
        refine WO.cls (C' := St w0 m m [[⟨b2, 24, [.int .i64 p0_0, .int .i64 p0_1, .int .i64 p0_2, .slice a13 ((y11).length) c14]⟩], [⟨b3, 24, [.int .i64 0, .int .i64 0, .int .i64 0, .slice none 0 0]⟩], L19]) (fun _ h => h) ?_
        refine WO_end ?_
        refine WK_seq ?_
        refine WK_region ?_
        refine WO_loadB tbok 0 rfl rfl rfl rfl (fun _ h => h) rfl rfl ?_
        refine WO_storeB tbok 1 [.int .i64 p0_0, .int .i64 p0_1, .int .i64 p0_2, .slice a13 ((y11).length) c14] rfl rfl rfl rfl rfl rfl rfl ?_
        refine WO.cls (C' := St w0 m m [[⟨b2, 24, [.int .i64 p0_0, .int .i64 p0_1, .int .i64 p0_2, .slice a13 ((y11).length) c14]⟩], [⟨b3, 24, [.int .i64 p0_0, .int .i64 p0_1, .int .i64 p0_2, .slice a13 ((y11).length) c14]⟩], L19]) (fun _ h => h) ?_
        refine WO_pure tbok 1 [(8, .pointer (some ⟨b3, 0, none⟩)), (9, .int .i64 0)] rfl ⟨rfl, rfl, trivial⟩ ?_
        refine WO_end ?_
        cases hm
        exact WK_ret (ret_out (L := L19) (RLc_cell tbok 1 rfl rfl rfl (RLc_tmp rfl RLc_nil)) (seg_sub 2 rfl) ⟨a13, ((y11).length), c14, rfl, hL19⟩)
    · refine WK_region ?_
      refine WO_loadB tbok 0 rfl rfl rfl rfl (fun _ h => h) rfl rfl ?_
      refine WO_pure tbok 2 [(1, .int .i64 p1), (2, .int .i64 p2), (3, .int .i64 p3), (4, .pointer (some ⟨b2, 0, none⟩)), (8, .pointer (some ⟨b3, 0, none⟩)), (9, .int .i64 0), (17, .agg #[.int .i64 p0_0, .int .i64 p0_1, .int .i64 p0_2, .slice a_p0_3 p0_3.length c_p0_3]), (18, .int .i64 p1), (19, .int .i64 p2)] rfl ⟨rfl, rfl, rfl, rfl, rfl, rfl, rfl, rfl, rfl, trivial⟩ ?_
      obtain ⟨y21, hc22, hx8⟩ := bind_some hx8
      refine WO_call0 (.bool y21) rfl rfl trivial rfl rfl rfl rfl St_closed ⟨62, #[], #[], rfl, callable_62, fun w hw => ⟨_, hw.sat, raster_has_walk h_p0_3 hc22⟩⟩ ?_
      refine WO_pure tbok 2 [(1, .int .i64 p1), (2, .int .i64 p2), (3, .int .i64 p3), (4, .pointer (some ⟨b2, 0, none⟩)), (8, .pointer (some ⟨b3, 0, none⟩)), (9, .int .i64 0), (22, .bool (!y21))] rfl ⟨rfl, rfl, rfl, rfl, rfl, rfl, rfl, trivial⟩ ?_
      refine WO_split (d := 22) (b := !y21) rfl (fun hb23 => ?_) (fun hb23 => ?_)
      · have hx8 := ifT hb23 hx8
        refine WO_pure tbok 9 [(1, .int .i64 p1), (2, .int .i64 p2), (3, .int .i64 p3), (4, .pointer (some ⟨b2, 0, none⟩)), (8, .pointer (some ⟨b3, 0, none⟩)), (9, .int .i64 0), (31, .bool true)] rfl ⟨rfl, rfl, rfl, rfl, rfl, rfl, rfl, trivial⟩ ?_
        refine WO_end ?_
        cases hx8
        refine WK.sub ?_ (WK.cls (fun _ h => h) hk9)
        exact ⟨rfl, rfl, rfl, rfl, rfl, rfl, rfl, trivial⟩
      · have hx8 := ifF hb23 hx8
        refine WO_pure tbok 4 [(1, .int .i64 p1), (2, .int .i64 p2), (3, .int .i64 p3), (4, .pointer (some ⟨b2, 0, none⟩)), (8, .pointer (some ⟨b3, 0, none⟩)), (9, .int .i64 0), (26, .bool (decide (p3 < 0)))] rfl ⟨rfl, rfl, rfl, rfl, rfl, rfl, rfl, trivial⟩ ?_
        refine WO_split (d := 26) (b := decide (p3 < 0)) rfl (fun hb24 => ?_) (fun hb24 => ?_)
        · have hx8 := ifT hb24 hx8
          refine WO_pure tbok 5 [(1, .int .i64 p1), (2, .int .i64 p2), (3, .int .i64 p3), (4, .pointer (some ⟨b2, 0, none⟩)), (8, .pointer (some ⟨b3, 0, none⟩)), (9, .int .i64 0), (31, .bool true)] rfl ⟨rfl, rfl, rfl, rfl, rfl, rfl, rfl, trivial⟩ ?_
          refine WO_end ?_
          cases hx8
          refine WK.sub ?_ (WK.cls (fun _ h => h) hk9)
          exact ⟨rfl, rfl, rfl, rfl, rfl, rfl, rfl, trivial⟩
        · have hx8 := ifF hb24 hx8
          refine WO_pure tbok 2 [(1, .int .i64 p1), (2, .int .i64 p2), (3, .int .i64 p3), (4, .pointer (some ⟨b2, 0, none⟩)), (8, .pointer (some ⟨b3, 0, none⟩)), (9, .int .i64 0), (26, .bool false), (27, .int .i64 p3), (28, .pointer (some ⟨b2, 2, none⟩))] rfl ⟨rfl, rfl, rfl, rfl, rfl, rfl, rfl, rfl, rfl, trivial⟩ ?_
          refine WO_loadB tbok 0 rfl rfl rfl rfl (fun _ h => h) rfl rfl ?_
          refine WO_pure tbok 2 [(1, .int .i64 p1), (2, .int .i64 p2), (3, .int .i64 p3), (4, .pointer (some ⟨b2, 0, none⟩)), (8, .pointer (some ⟨b3, 0, none⟩)), (9, .int .i64 0), (31, .bool (decide (p0_2 < p3)))] rfl ⟨rfl, rfl, rfl, rfl, rfl, rfl, rfl, trivial⟩ ?_
          refine WO_end ?_
          cases hx8
          refine WK.sub ?_ (WK.cls (fun _ h => h) hk9)
          exact ⟨rfl, rfl, rfl, rfl, rfl, rfl, rfl, trivial⟩
def fiducialref13_Set_Q (r : Int × Int × Int × List Int) : Value → List Ent → Prop := fun v L => ∃ (a0 : Option Addr) (q0 c0 : Nat), v = .agg #[.int .i64 r.1, .int .i64 r.2.1, .int .i64 r.2.2.1, .slice a0 q0 c0] ∧ OwnE 3 1 (I1 .i64) (.slice a0 q0 c0) r.2.2.2 L
theorem fiducialref13_Set_walk {m : Mu} {p0_0 : Int} {p0_1 : Int} {p0_2 : Int} {p0_3 : List Int} {p1 : Int} {p2 : Int} {p3 : Int} {a_p0_3 : Option Addr} {q_p0_3 c_p0_3 : Nat} (h_p0_3 : SlR (FE (I1 .i64)) 1 m (.slice a_p0_3 q_p0_3 c_p0_3) p0_3) {r : Int × Int × Int × List Int} (hm : fiducialref13_Set p0_0 p0_1 p0_2 p0_3 p1 p2 p3 = some r) :
    Go.E.Spec Try.prog 45 [.agg #[.int .i64 p0_0, .int .i64 p0_1, .int .i64 p0_2, .slice a_p0_3 q_p0_3 c_p0_3], .int .i64 p1, .int .i64 p2, .int .i64 p3] m (fun v _ L => fiducialref13_Set_Q r v L) := by
  refine Spec_enter Try.func45 rfl rfl rfl (fun w0 => ?_)
  refine WK.sub (e' := [(0, .agg #[.int .i64 p0_0, .int .i64 p0_1, .int .i64 p0_2, .slice a_p0_3 q_p0_3 c_p0_3]), (1, .int .i64 p1), (2, .int .i64 p2), (3, .int .i64 p3)]) ⟨rfl, rfl, rfl, rfl, trivial⟩ ?_
  obtain rfl := SlR.qlen h_p0_3
  refine WK.sub (e' := [(0, .agg #[.int .i64 p0_0, .int .i64 p0_1, .int .i64 p0_2, .slice a_p0_3 p0_3.length c_p0_3]), (1, .int .i64 p1), (2, .int .i64 p2), (3, .int .i64 p3)]) ⟨rfl, rfl, rfl, rfl, trivial⟩ ?_
  unfold fiducialref13_Set at hm
  refine WK_seq ?_
  refine WK_region ?_
  refine WO_box [.int .i64 p0_0, .int .i64 p0_1, .int .i64 p0_2, .slice a_p0_3 p0_3.length c_p0_3] rfl rfl trivial rfl rfl rfl (fun b2 => ?_)
  refine WO.cls (C' := St w0 m m [[⟨b2, 24, [.int .i64 p0_0, .int .i64 p0_1, .int .i64 p0_2, .slice a_p0_3 p0_3.length c_p0_3]⟩]]) (fun _ h => h) ?_
  refine WO_alloc tbok [.int .i64 0, .int .i64 0, .int .i64 0, .slice none 0 0] rfl rfl trivial rfl rfl rfl rfl (fun b3 => ?_)
  refine WO.cls (C' := St w0 m m [[⟨b2, 24, [.int .i64 p0_0, .int .i64 p0_1, .int .i64 p0_2, .slice a_p0_3 p0_3.length c_p0_3]⟩], [⟨b3, 24, [.int .i64 0, .int .i64 0, .int .i64 0, .slice none 0 0]⟩]]) (fun _ h => h) ?_
  refine WO_end ?_
  refine WK_seq ?_
  refine WK_region ?_
  refine WO_loadB tbok 0 rfl rfl rfl rfl (fun _ h => h) rfl rfl ?_
  obtain ⟨⟨y4, y5, y6, y7⟩, hc8, hm⟩ := bind_some hm
  refine WO_call1 (fiducialref13_Copy_Q (y4, y5, y6, y7)) rfl rfl trivial rfl rfl rfl rfl ⟨22, #[], #[], rfl, callable_22, fun w hw => ⟨_, hw.sat, fiducialref13_Copy_walk h_p0_3 hc8⟩⟩ (fun v13 L12 hq => ?_)
  obtain ⟨a9, qa9, c10, rfl, hL12⟩ := hq
  obtain rfl := OwnE.qlen hL12
  refine WO.cls (C' := St w0 m m [[⟨b2, 24, [.int .i64 p0_0, .int .i64 p0_1, .int .i64 p0_2, .slice a_p0_3 p0_3.length c_p0_3]⟩], [⟨b3, 24, [.int .i64 0, .int .i64 0, .int .i64 0, .slice none 0 0]⟩], L12]) (fun _ h => h) ?_
  refine WO_storeB tbok 0 [.int .i64 y4, .int .i64 y5, .int .i64 y6, .slice a9 ((y7).length) c10] rfl rfl rfl rfl rfl rfl rfl ?_
  refine WO.cls (C' := St w0 m m [[⟨b2, 24, [.int .i64 y4, .int .i64 y5, .int .i64 y6, .slice a9 ((y7).length) c10]⟩], [⟨b3, 24, [.int .i64 0, .int .i64 0, .int .i64 0, .slice none 0 0]⟩], L12]) (fun _ h => h) ?_
  refine WO_end ?_
  refine WK_seq ?_
  refine WK_region ?_
  refine WO_pure tbok 1 [(1, .int .i64 p1), (2, .int .i64 p2), (3, .int .i64 p3), (4, .pointer (some ⟨b2, 0, none⟩)), (8, .pointer (some ⟨b3, 0, none⟩)), (11, .pointer (some ⟨b2, 3, none⟩))] rfl ⟨rfl, rfl, rfl, rfl, rfl, rfl, trivial⟩ ?_
  refine WO_loadB tbok 0 rfl rfl rfl rfl (fun _ h => h) rfl rfl ?_
  refine WO_pure tbok 2 [(1, .int .i64 p1), (3, .int .i64 p3), (4, .pointer (some ⟨b2, 0, none⟩)), (8, .pointer (some ⟨b3, 0, none⟩)), (12, .slice a9 ((y7).length) c10), (13, .int .i64 p2), (14, .pointer (some ⟨b2, 0, none⟩))] rfl ⟨rfl, rfl, rfl, rfl, rfl, rfl, rfl, trivial⟩ ?_
  refine WO_loadB tbok 0 rfl rfl rfl rfl (fun _ h => h) rfl rfl ?_
  refine WO_pure tbok 4 [(4, .pointer (some ⟨b2, 0, none⟩)), (8, .pointer (some ⟨b3, 0, none⟩)), (12, .slice a9 ((y7).length) c10), (18, .int .i64 (w64 ((w64 (p2 * y4)) + p1))), (19, .int .i64 p3)] rfl ⟨rfl, rfl, rfl, rfl, rfl, trivial⟩ ?_
  obtain ⟨hc14, hm⟩ := chk_some hm
  refine WO_index tbok rfl rfl rfl rfl rfl rfl rfl rfl (OwnE.addr hL12) (by simpa using hc14) ?_
  refine WO_storeO (E := (I1 .i64)) tbok (fun _ => rfl) 2 p3 rfl rfl rfl rfl rfl hL12 rfl (by simpa using idx_lt hc14) rfl rfl rfl rfl (fun L15 hL15 => ?_)
  refine WO.cls (C' := St w0 m m [[⟨b2, 24, [.int .i64 y4, .int .i64 y5, .int .i64 y6, .slice a9 ((y7).length) c10]⟩], [⟨b3, 24, [.int .i64 0, .int .i64 0, .int .i64 0, .slice none 0 0]⟩], L15]) (fun _ h => h) ?_
  refine WO_end ?_
  refine WK_seq ?_
  refine WK_region ?_
  refine WO_loadB tbok 0 rfl rfl rfl rfl (fun _ h => h) rfl rfl ?_
  refine WO_storeB tbok 1 [.int .i64 y4, .int .i64 y5, .int .i64 y6, .slice a9 ((y7).length) c10] rfl rfl rfl rfl rfl rfl rfl ?_
  refine WO.cls (C' := St w0 m m [[⟨b2, 24, [.int .i64 y4, .int .i64 y5, .int .i64 y6, .slice a9 ((y7).length) c10]⟩], [⟨b3, 24, [.int .i64 y4, .int .i64 y5, .int .i64 y6, .slice a9 ((y7).length) c10]⟩], L15]) (fun _ h => h) ?_
  refine WO_end ?_
  cases hm
  exact WK_ret (ret_out (L := L15) (RLc_cell tbok 1 rfl rfl rfl RLc_nil) (seg_sub 2 rfl) ⟨a9, ((y7).length), c10, rfl, hL15⟩)
end Go.Proofs.Ytoflllddpoonbaa
