import Derived.Test.YtomlpofoaokmdaaTab
import Derived.Test.YtomlpofoaokmdaaM
import Derived.Test.YtomlpofoaokmdaaW3
set_option linter.unusedVariables false
set_option maxRecDepth 100000
set_option maxHeartbeats 4000000
namespace Go.Proofs.Ytomlpofoaokmdaa
open Go.E Go.RowKit
attribute [local irreducible] Go.E.WO Go.E.WK
def fiduciallaw50_Below_Q (r : List (List Int)) : Value → Mu → List Ent → Prop := fun v m L => ∃ (a0 : Option Addr) (q0 c0 : Nat), v = .slice a0 q0 c0 ∧ SlR (RowE (FE (I1 .i64)) 1) 1 m (.slice a0 q0 c0) r
theorem fiduciallaw50_Below_walk {m : Mu} {p0 : List (List Int)} {a_p0 : Option Addr} {q_p0 c_p0 : Nat} (h_p0 : SlR (RowE (FE (I1 .i64)) 1) 1 m (.slice a_p0 q_p0 c_p0) p0) {r : List (List Int)} (hm : fiduciallaw50_Below p0 = some r) :
    Go.E.Spec Try.prog 47 [.slice a_p0 q_p0 c_p0] m (fiduciallaw50_Below_Q r) := by
  refine Spec_enter Try.func47 rfl rfl rfl (fun w0 => ?_)
  refine WK.sub (e' := [(0, .slice a_p0 q_p0 c_p0)]) ⟨rfl, trivial⟩ ?_
  obtain rfl := SlR.qlen h_p0
  refine WK.sub (e' := [(0, .slice a_p0 p0.length c_p0)]) ⟨rfl, trivial⟩ ?_
  unfold fiduciallaw50_Below at hm
  refine WK_seq ?_
  refine WK_region ?_
  refine WO_pure tbok 1 [(0, .slice a_p0 p0.length c_p0), (2, .slice none 0 0)] rfl ⟨rfl, rfl, trivial⟩ ?_
  refine WO_end ?_
  refine WK_seq ?_
  refine WK_region ?_
  refine WO_pure tbok 2 [(0, .slice a_p0 p0.length c_p0), (2, .slice none 0 0), (10, .int .i64 (p0.length : Int))] rfl ⟨rfl, rfl, rfl, trivial⟩ ?_
  obtain ⟨hc2, hm⟩ := chk_some hm
  refine WO_makeT (E := (I1 .i64)) (k := 1) (T0 := 23) (T1 := 3) tbok rfl rfl trivial rfl rfl rfl rfl rfl rfl rfl rfl rfl rfl (mk_ok (by decide) hc2) (fun b3 c4 L5 hL5 => ?_)
  refine WO.cls (C' := St w0 m m [L5]) (fun _ h => h) ?_
  refine WO_pure tbok 1 [(0, .slice a_p0 p0.length c_p0), (2, .slice none 0 0), (3, .slice (some ⟨b3, 0, none⟩) ((List.replicate ((p0.length : Int) : Int).toNat ([] : List Int)).length) c4)] rfl ⟨rfl, rfl, rfl, trivial⟩ ?_
  refine WO_end ?_
  refine WK_seq ?_
  refine WK_seq ?_
  refine WK_region ?_
  refine WO_pure tbok 4 [(0, .slice a_p0 p0.length c_p0), (2, .slice none 0 0), (3, .slice (some ⟨b3, 0, none⟩) ((List.replicate ((p0.length : Int) : Int).toNat ([] : List Int)).length) c4), (4, .int .i64 (w64 ((p0.length : Int) - 1)))] rfl ⟨rfl, rfl, rfl, rfl, trivial⟩ ?_
  refine WO_end ?_
  obtain ⟨x13, hx14, hm⟩ := bind_some hm
  refine WK_join (β := (List (List Int)) × (List Value × List Ent)) (fun p => p.1 = x13 ∧ OwnT 23 3 1 (I1 .i64) (.slice (some ⟨b3, 0, none⟩) ((List.replicate ((p0.length : Int) : Int).toNat ([] : List Int)).length) c4) p.2.1 p.1 p.2.2) (fun p => [(2, .slice none 0 0), (3, .slice (some ⟨b3, 0, none⟩) ((List.replicate ((p0.length : Int) : Int).toNat ([] : List Int)).length) c4)]) (fun p => St w0 m m [p.2.2]) ?_ (fun hk15 => ?_)
  · rintro ⟨l_3, ⟨vs12, L11⟩⟩ ⟨hq21, hL11⟩
    subst hq21
    refine WK.sub (e' := [(2, .slice none 0 0), (3, .slice (some ⟨b3, 0, none⟩) ((List.replicate ((p0.length : Int) : Int).toNat ([] : List Int)).length) c4)]) ⟨rfl, rfl, trivial⟩ (WK.cls (C' := St w0 m m [L11]) (fun _ h => h) ?_)
    refine WK_seq ?_
    refine WK_region ?_
    refine WO_pure tbok 2 [(2, .slice (some ⟨b3, 0, none⟩) ((List.replicate ((p0.length : Int) : Int).toNat ([] : List Int)).length) c4)] rfl ⟨rfl, trivial⟩ ?_
    refine WO_end ?_
    cases hm
    refine WK_freeze 0 rfl (fun m22 hle23 hmm24 => ?_)
    refine WK.cls (C' := St w0 m m22 [[]]) (fun _ h => h) ?_
    exact WK_ret (ret_out (L := []) (RLc_tmp rfl RLc_nil) (List.nil_sublist _) ⟨(some ⟨b3, 0, none⟩), ((List.replicate ((p0.length : Int) : Int).toNat ([] : List Int)).length), c4, rfl, (OwnT.rd (E := (I1 .i64)) (k := 1) (fun _ => rfl) hL11 hmm24)⟩)
  · refine WK_block ?_
    refine WK_loop (S := List (List Int) × Int) (G := List Value × List Ent) (fun s => fiduciallaw50_Below_s1 p0 s.1 s.2) (fun s g => [(0, .slice a_p0 p0.length c_p0), (2, .slice none 0 0), (3, .slice (some ⟨b3, 0, none⟩) ((List.replicate ((p0.length : Int) : Int).toNat ([] : List Int)).length) c4), (4, .int .i64 s.2)]) (fun s g => St w0 m m [g.2]) (fun s g => OwnT 23 3 1 (I1 .i64) (.slice (some ⟨b3, 0, none⟩) ((List.replicate ((p0.length : Int) : Int).toNat ([] : List Int)).length) c4) g.1 s.1 g.2) FUEL ((List.replicate ((p0.length : Int) : Int).toNat ([] : List Int)), w64 ((p0.length : Int) - 1)) ((List.replicate ((p0.length : Int) : Int).toNat (Value.slice none 0 0)), L5) x13 hx14 hL5 ⟨rfl, rfl, rfl, rfl, trivial⟩ (fun _ h => h) ?_
    rintro ⟨l_1, s_2⟩ ⟨vs9, L8⟩ o17 fl18 hm16 hL8 hn19 hd20
    have hm16 : fiduciallaw50_Below_s1 p0 l_1 s_2 = some o17 := hm16
    unfold fiduciallaw50_Below_s1 at hm16
    refine WK.sub (e' := [(0, .slice a_p0 p0.length c_p0), (2, .slice none 0 0), (3, .slice (some ⟨b3, 0, none⟩) ((List.replicate ((p0.length : Int) : Int).toNat ([] : List Int)).length) c4), (4, .int .i64 s_2)]) ⟨rfl, rfl, rfl, rfl, trivial⟩ (WK.cls (C' := St w0 m m [L8]) (fun _ h => h) ?_)
    refine WK_seq ?_
    refine WK_seq ?_
    refine WK_region ?_
    refine WO_pure tbok 2 [(0, .slice a_p0 p0.length c_p0), (2, .slice none 0 0), (3, .slice (some ⟨b3, 0, none⟩) ((List.replicate ((p0.length : Int) : Int).toNat ([] : List Int)).length) c4), (4, .int .i64 s_2), (16, .bool (decide (0 ≤ s_2)))] rfl ⟨rfl, rfl, rfl, rfl, rfl, trivial⟩ ?_
    refine WO_end ?_
    refine WK_cond (b := decide (0 ≤ s_2)) rfl (fun hb25 => ?_) (fun hb25 => ?_)
    · have hm16 := ifT hb25 hm16
      refine WK_skip ?_
      refine WK_seq ?_
      refine WK_block ?_
      refine WK_seq ?_
      refine WK_region ?_
      refine WO_pure tbok 2 [(0, .slice a_p0 p0.length c_p0), (2, .slice none 0 0), (3, .slice (some ⟨b3, 0, none⟩) ((List.replicate ((p0.length : Int) : Int).toNat ([] : List Int)).length) c4), (4, .int .i64 s_2), (19, .slice a_p0 p0.length c_p0), (20, .int .i64 s_2)] rfl ⟨rfl, rfl, rfl, rfl, rfl, rfl, trivial⟩ ?_
      obtain ⟨v_4, hy26, hm16⟩ := bind_some hm16
      obtain ⟨hc27, hy26⟩ := ix_some hy26
      refine WO_index tbok rfl rfl rfl rfl rfl rfl rfl rfl (SlR.addr h_p0) hc27 ?_
      refine WO_loadR tbok rfl rfl rfl rfl (fun _ h => St.sat h) h_p0 hy26 rfl rfl (fun a28 c29 h30 => ?_)
      refine WO_pure tbok 2 [(0, .slice a_p0 p0.length c_p0), (2, .slice none 0 0), (3, .slice (some ⟨b3, 0, none⟩) ((List.replicate ((p0.length : Int) : Int).toNat ([] : List Int)).length) c4), (4, .int .i64 s_2), (22, .slice a28 ((v_4).length) c29), (23, .int .i64 ((v_4).length : Int)), (24, .int .i64 0)] rfl ⟨rfl, rfl, rfl, rfl, rfl, rfl, rfl, trivial⟩ ?_
      refine WO_end ?_
      obtain ⟨x38, hx39, hm16⟩ := bind_some hm16
      refine WK_join (β := (List (List Int)) × (List Value × List Ent)) (fun p => p.1 = x38 ∧ OwnT 23 3 1 (I1 .i64) (.slice (some ⟨b3, 0, none⟩) ((List.replicate ((p0.length : Int) : Int).toNat ([] : List Int)).length) c4) p.2.1 p.1 p.2.2) (fun p => [(0, .slice a_p0 p0.length c_p0), (2, .slice none 0 0), (3, .slice (some ⟨b3, 0, none⟩) ((List.replicate ((p0.length : Int) : Int).toNat ([] : List Int)).length) c4), (4, .int .i64 s_2)]) (fun p => St w0 m m [p.2.2]) ?_ (fun hk40 => ?_)
      · rintro ⟨l_7, ⟨vs37, L36⟩⟩ ⟨hq46, hL36⟩
        subst hq46
        refine WK.sub (e' := [(0, .slice a_p0 p0.length c_p0), (2, .slice none 0 0), (3, .slice (some ⟨b3, 0, none⟩) ((List.replicate ((p0.length : Int) : Int).toNat ([] : List Int)).length) c4), (4, .int .i64 s_2)]) ⟨rfl, rfl, rfl, rfl, trivial⟩ (WK.cls (C' := St w0 m m [L36]) (fun _ h => h) ?_)
        refine WK_blk ?_
        refine WK_region ?_
        refine WO_pure tbok 3 [(0, .slice a_p0 p0.length c_p0), (2, .slice none 0 0), (3, .slice (some ⟨b3, 0, none⟩) ((List.replicate ((p0.length : Int) : Int).toNat ([] : List Int)).length) c4), (4, .int .i64 (w64 (s_2 - 1)))] rfl ⟨rfl, rfl, rfl, rfl, trivial⟩ ?_
        refine WO_end ?_
        cases hm16
        refine WK.sub ?_ (WK.cls (fun _ h => h) (hn19 _ (vs37, L36) rfl hL36))
        exact ⟨rfl, rfl, rfl, rfl, trivial⟩
      · refine WK_block ?_
        refine WK_loop (S := List (List Int) × Int) (G := List Value × List Ent) (fun s => fiduciallaw50_Below_s2 p0 s_2 v_4 s.1 s.2) (fun s g => [(0, .slice a_p0 p0.length c_p0), (2, .slice none 0 0), (3, .slice (some ⟨b3, 0, none⟩) ((List.replicate ((p0.length : Int) : Int).toNat ([] : List Int)).length) c4), (4, .int .i64 s_2), (22, .slice a28 ((v_4).length) c29), (23, .int .i64 ((v_4).length : Int)), (24, .int .i64 s.2)]) (fun s g => St w0 m m [g.2]) (fun s g => OwnT 23 3 1 (I1 .i64) (.slice (some ⟨b3, 0, none⟩) ((List.replicate ((p0.length : Int) : Int).toNat ([] : List Int)).length) c4) g.1 s.1 g.2) FUEL (l_1, 0) (vs9, L8) x38 hx39 hL8 ⟨rfl, rfl, rfl, rfl, rfl, rfl, rfl, trivial⟩ (fun _ h => h) ?_
        rintro ⟨l_5, s_6⟩ ⟨vs34, L33⟩ o42 fl43 hm41 hL33 hn44 hd45
        have hm41 : fiduciallaw50_Below_s2 p0 s_2 v_4 l_5 s_6 = some o42 := hm41
        unfold fiduciallaw50_Below_s2 at hm41
        refine WK.sub (e' := [(0, .slice a_p0 p0.length c_p0), (2, .slice none 0 0), (3, .slice (some ⟨b3, 0, none⟩) ((List.replicate ((p0.length : Int) : Int).toNat ([] : List Int)).length) c4), (4, .int .i64 s_2), (22, .slice a28 ((v_4).length) c29), (23, .int .i64 ((v_4).length : Int)), (24, .int .i64 s_6)]) ⟨rfl, rfl, rfl, rfl, rfl, rfl, rfl, trivial⟩ (WK.cls (C' := St w0 m m [L33]) (fun _ h => h) ?_)
        refine WK_seq ?_
        refine WK_region ?_
        refine WO_pure tbok 1 [(0, .slice a_p0 p0.length c_p0), (2, .slice none 0 0), (3, .slice (some ⟨b3, 0, none⟩) ((List.replicate ((p0.length : Int) : Int).toNat ([] : List Int)).length) c4), (4, .int .i64 s_2), (22, .slice a28 ((v_4).length) c29), (23, .int .i64 ((v_4).length : Int)), (24, .int .i64 s_6), (25, .bool (decide (s_6 < ((v_4).length : Int))))] rfl ⟨rfl, rfl, rfl, rfl, rfl, rfl, rfl, rfl, trivial⟩ ?_
        refine WO_end ?_
        refine WK_seq ?_
        refine WK_cond (b := decide (s_6 < ((v_4).length : Int))) rfl (fun hb47 => ?_) (fun hb47 => ?_)
        · have hm41 := ifT hb47 hm41
          refine WK_skip ?_
          refine WK_seq ?_
          refine WK_block ?_
          refine WK_seq ?_
          refine WK_region ?_
          refine WO_pure tbok 1 [(0, .slice a_p0 p0.length c_p0), (2, .slice none 0 0), (3, .slice (some ⟨b3, 0, none⟩) ((List.replicate ((p0.length : Int) : Int).toNat ([] : List Int)).length) c4), (4, .int .i64 s_2), (22, .slice a28 ((v_4).length) c29), (23, .int .i64 ((v_4).length : Int)), (24, .int .i64 s_6), (26, .int .i64 s_6)] rfl ⟨rfl, rfl, rfl, rfl, rfl, rfl, rfl, rfl, trivial⟩ ?_
          obtain ⟨v_8, hy48, hm41⟩ := bind_some hm41
          obtain ⟨hc49, hy48⟩ := ix_some hy48
          refine WO_index tbok rfl rfl rfl rfl rfl rfl rfl rfl (SlR.addr h30) hc49 ?_
          refine WO_loadE tbok rfl rfl rfl rfl (fun _ h => St.sat h) h30 hy48 rfl ?_
          refine WO_pure tbok 2 [(0, .slice a_p0 p0.length c_p0), (2, .slice none 0 0), (3, .slice (some ⟨b3, 0, none⟩) ((List.replicate ((p0.length : Int) : Int).toNat ([] : List Int)).length) c4), (4, .int .i64 s_2), (5, .int .i64 s_6), (6, .int .i64 v_8), (22, .slice a28 ((v_4).length) c29), (23, .int .i64 ((v_4).length : Int)), (24, .int .i64 s_6)] rfl ⟨rfl, rfl, rfl, rfl, rfl, rfl, rfl, rfl, rfl, trivial⟩ ?_
          refine WO_end ?_
          refine WK_seq ?_
          refine WK_region ?_
          refine WO_pure tbok 1 [(0, .slice a_p0 p0.length c_p0), (2, .slice none 0 0), (3, .slice (some ⟨b3, 0, none⟩) ((List.replicate ((p0.length : Int) : Int).toNat ([] : List Int)).length) c4), (4, .int .i64 s_2), (5, .int .i64 s_6), (6, .int .i64 v_8), (7, .int .i64 (-1)), (22, .slice a28 ((v_4).length) c29), (23, .int .i64 ((v_4).length : Int)), (24, .int .i64 s_6)] rfl ⟨rfl, rfl, rfl, rfl, rfl, rfl, rfl, rfl, rfl, rfl, trivial⟩ ?_
          refine WO_end ?_
          refine WK_seq ?_
          refine WK_seq ?_
          refine WK_region ?_
          refine WO_pure tbok 3 [(0, .slice a_p0 p0.length c_p0), (2, .slice none 0 0), (3, .slice (some ⟨b3, 0, none⟩) ((List.replicate ((p0.length : Int) : Int).toNat ([] : List Int)).length) c4), (4, .int .i64 s_2), (5, .int .i64 s_6), (6, .int .i64 v_8), (7, .int .i64 (-1)), (8, .int .i64 (w64 (s_6 - 1))), (22, .slice a28 ((v_4).length) c29), (23, .int .i64 ((v_4).length : Int)), (24, .int .i64 s_6)] rfl ⟨rfl, rfl, rfl, rfl, rfl, rfl, rfl, rfl, rfl, rfl, rfl, trivial⟩ ?_
          refine WO_end ?_
          obtain ⟨x50, hx51, hm41⟩ := bind_some hm41
          refine WK_join (β := Int × Unit) (fun p => p.1 = x50) (fun p => [(0, .slice a_p0 p0.length c_p0), (2, .slice none 0 0), (3, .slice (some ⟨b3, 0, none⟩) ((List.replicate ((p0.length : Int) : Int).toNat ([] : List Int)).length) c4), (4, .int .i64 s_2), (6, .int .i64 v_8), (7, .int .i64 p.1), (22, .slice a28 ((v_4).length) c29), (23, .int .i64 ((v_4).length : Int)), (24, .int .i64 s_6)]) (fun p => St w0 m m [L33]) ?_ (fun hk52 => ?_)
          · rintro ⟨s_11, ⟨⟩⟩ hq58
            subst hq58
            refine WK.sub (e' := [(0, .slice a_p0 p0.length c_p0), (2, .slice none 0 0), (3, .slice (some ⟨b3, 0, none⟩) ((List.replicate ((p0.length : Int) : Int).toNat ([] : List Int)).length) c4), (4, .int .i64 s_2), (6, .int .i64 v_8), (7, .int .i64 s_11), (22, .slice a28 ((v_4).length) c29), (23, .int .i64 ((v_4).length : Int)), (24, .int .i64 s_6)]) ⟨rfl, rfl, rfl, rfl, rfl, rfl, rfl, rfl, rfl, trivial⟩ (WK.cls (C' := St w0 m m [L33]) (fun _ h => h) ?_)
            refine WK_region ?_
            refine WO_pure tbok 4 [(0, .slice a_p0 p0.length c_p0), (2, .slice none 0 0), (3, .slice (some ⟨b3, 0, none⟩) ((List.replicate ((p0.length : Int) : Int).toNat ([] : List Int)).length) c4), (4, .int .i64 s_2), (6, .int .i64 v_8), (7, .int .i64 s_11), (22, .slice a28 ((v_4).length) c29), (23, .int .i64 ((v_4).length : Int)), (24, .int .i64 s_6), (79, .slice (some ⟨b3, 0, none⟩) ((List.replicate ((p0.length : Int) : Int).toNat ([] : List Int)).length) c4), (80, .int .i64 s_2), (81, .slice (some ⟨b3, 0, none⟩) ((List.replicate ((p0.length : Int) : Int).toNat ([] : List Int)).length) c4), (82, .int .i64 s_2)] rfl ⟨rfl, rfl, rfl, rfl, rfl, rfl, rfl, rfl, rfl, rfl, rfl, rfl, rfl, trivial⟩ ?_
            obtain ⟨v_12, hy59, hm41⟩ := bind_some hm41
            obtain ⟨hc60, hy59⟩ := ix_some hy59
            refine WO_index tbok rfl rfl rfl rfl rfl rfl rfl rfl (OwnT.addr hL33) (by simpa using hc60) ?_
            refine WO_loadT tbok 0 rfl rfl rfl rfl (fun _ h => h) hL33 rfl hy59 rfl rfl (fun a61 c62 L63 hv64 hr65 => ?_)
            refine WO_pure tbok 4 [(0, .slice a_p0 p0.length c_p0), (2, .slice none 0 0), (3, .slice (some ⟨b3, 0, none⟩) ((List.replicate ((p0.length : Int) : Int).toNat ([] : List Int)).length) c4), (4, .int .i64 s_2), (22, .slice a28 ((v_4).length) c29), (23, .int .i64 ((v_4).length : Int)), (24, .int .i64 s_6), (79, .slice (some ⟨b3, 0, none⟩) ((List.replicate ((p0.length : Int) : Int).toNat ([] : List Int)).length) c4), (80, .int .i64 s_2), (84, .slice a61 v_12.length c62), (88, .int .i64 (w64 (v_8 + (if s_11 < 0 then 0 else s_11))))] rfl ⟨rfl, rfl, rfl, rfl, rfl, rfl, rfl, rfl, rfl, rfl, rfl, trivial⟩ ?_
            refine WO_bslice (E := (I1 .i64)) tbok (fun _ => rfl) (by decide) [.int .i64 (w64 (v_8 + (if s_11 < 0 then 0 else s_11)))] ([w64 (v_8 + (if s_11 < 0 then 0 else s_11))] : List Int) rfl rfl trivial rfl rfl rfl rfl rfl rfl rfl rfl rfl rfl rfl rfl (fun b67 hb67 => ?_)
            refine WO.cls (C' := St w0 m m [L33, [⟨b67, 3, ([w64 (v_8 + (if s_11 < 0 then 0 else s_11))] : List Int).flatMap (I1 .i64)⟩]]) (fun _ h => h) ?_
            refine WO_takeT (E := (I1 .i64)) (k := 1) 0 hL33 rfl hv64 hy59 (fun L69 L70 hL69 hL70 => ?_)
            refine WO.cls (C' := St w0 m m [L69, [⟨b67, 3, ([w64 (v_8 + (if s_11 < 0 then 0 else s_11))] : List Int).flatMap (I1 .i64)⟩], L70]) (fun _ h => h) ?_
            obtain ⟨hc73, hm41⟩ := chk_some hm41
            refine WO_append (E := (I1 .i64)) tbok (fun _ => rfl) 2 ([w64 (v_8 + (if s_11 < 0 then 0 else s_11))] : List Int) (fun _ _ => rfl) rfl rfl rfl rfl rfl rfl rfl rfl rfl rfl rfl rfl hL70 rfl (src_seg (j := 1) rfl) (ap_ok (by decide) hc73) (ap_max hc73) (fun a74 c75 L76 hL76 => ?_)
            refine WO.cls (C' := St w0 m m [L69, [⟨b67, 3, ([w64 (v_8 + (if s_11 < 0 then 0 else s_11))] : List Int).flatMap (I1 .i64)⟩], L76]) (fun _ h => h) ?_
            obtain ⟨hc78, hm41⟩ := chk_some hm41
            refine WO_index tbok rfl rfl rfl rfl rfl rfl rfl rfl (OwnH.addr hL69) (by simpa using hc78) ?_
            refine WO_storeTH tbok 0 2 rfl rfl rfl rfl rfl hL69 rfl hL76 rfl rfl (by simpa using idx_lt hc78) rfl rfl rfl rfl (fun L79 hL79 => ?_)
            refine WO.cls (C' := St w0 m m [L79, [⟨b67, 3, ([w64 (v_8 + (if s_11 < 0 then 0 else s_11))] : List Int).flatMap (I1 .i64)⟩], []]) (fun _ h => h) ?_
            refine WO_end ?_
            refine WK_blk ?_
            refine WK_region ?_
            refine WO_pure tbok 2 [(0, .slice a_p0 p0.length c_p0), (2, .slice none 0 0), (3, .slice (some ⟨b3, 0, none⟩) ((List.replicate ((p0.length : Int) : Int).toNat ([] : List Int)).length) c4), (4, .int .i64 s_2), (22, .slice a28 ((v_4).length) c29), (23, .int .i64 ((v_4).length : Int)), (24, .int .i64 (w64 (s_6 + 1)))] rfl ⟨rfl, rfl, rfl, rfl, rfl, rfl, rfl, trivial⟩ ?_
            refine WO_end ?_
            cases hm41
            refine WK.sub ?_ (WK.cls (fun _ h => St.take 1 h) (hn44 _ ((vs34.set s_2.toNat (.slice a74 ((v_12 ++ ([w64 (v_8 + (if s_11 < 0 then 0 else s_11))] : List Int)).length) c75)), L79) rfl hL79))
            exact ⟨rfl, rfl, rfl, rfl, rfl, rfl, rfl, trivial⟩
          · refine WK_block ?_
            refine WK_loop (S := Int × Int) (G := Unit) (fun s => fiduciallaw50_Below_s3 p0 s_2 l_5 s_6 s.1 s.2) (fun s g => [(0, .slice a_p0 p0.length c_p0), (2, .slice none 0 0), (3, .slice (some ⟨b3, 0, none⟩) ((List.replicate ((p0.length : Int) : Int).toNat ([] : List Int)).length) c4), (4, .int .i64 s_2), (5, .int .i64 s_6), (6, .int .i64 v_8), (7, .int .i64 s.1), (8, .int .i64 s.2), (22, .slice a28 ((v_4).length) c29), (23, .int .i64 ((v_4).length : Int)), (24, .int .i64 s_6)]) (fun s g => St w0 m m [L33]) (fun s g => True) FUEL ((-1), w64 (s_6 - 1)) () x50 hx51 trivial ⟨rfl, rfl, rfl, rfl, rfl, rfl, rfl, rfl, rfl, rfl, rfl, trivial⟩ (fun _ h => h) ?_
            rintro ⟨s_9, s_10⟩ ⟨⟩ o54 fl55 hm53 - hn56 hd57
            have hm53 : fiduciallaw50_Below_s3 p0 s_2 l_5 s_6 s_9 s_10 = some o54 := hm53
            unfold fiduciallaw50_Below_s3 at hm53
            refine WK.sub (e' := [(0, .slice a_p0 p0.length c_p0), (2, .slice none 0 0), (3, .slice (some ⟨b3, 0, none⟩) ((List.replicate ((p0.length : Int) : Int).toNat ([] : List Int)).length) c4), (4, .int .i64 s_2), (5, .int .i64 s_6), (6, .int .i64 v_8), (7, .int .i64 s_9), (8, .int .i64 s_10), (22, .slice a28 ((v_4).length) c29), (23, .int .i64 ((v_4).length : Int)), (24, .int .i64 s_6)]) ⟨rfl, rfl, rfl, rfl, rfl, rfl, rfl, rfl, rfl, rfl, rfl, trivial⟩ (WK.cls (C' := St w0 m m [L33]) (fun _ h => h) ?_)
            refine WK_seq ?_
            refine WK_seq ?_
            obtain ⟨s_13, hx81, hm53⟩ := bind_some hm53
            refine WK_meet [(0, .slice a_p0 p0.length c_p0), (2, .slice none 0 0), (3, .slice (some ⟨b3, 0, none⟩) ((List.replicate ((p0.length : Int) : Int).toNat ([] : List Int)).length) c4), (4, .int .i64 s_2), (5, .int .i64 s_6), (6, .int .i64 v_8), (7, .int .i64 s_9), (8, .int .i64 s_10), (22, .slice a28 ((v_4).length) c29), (23, .int .i64 ((v_4).length : Int)), (24, .int .i64 s_6), (41, .bool s_13)] (St w0 m m [L33]) ?_ (fun hk82 => ?_)
            · refine WK_cond (b := s_13) rfl (fun hb83 => ?_) (fun hb83 => ?_)
              · have hm53 := ifT hb83 hm53
                refine WK_skip ?_
                refine WK_seq ?_
                refine WK_block ?_
                refine WK_seq ?_
                obtain ⟨s_14, hx84, hm53⟩ := bind_some hm53
                refine WK_meet [(0, .slice a_p0 p0.length c_p0), (2, .slice none 0 0), (3, .slice (some ⟨b3, 0, none⟩) ((List.replicate ((p0.length : Int) : Int).toNat ([] : List Int)).length) c4), (4, .int .i64 s_2), (5, .int .i64 s_6), (6, .int .i64 v_8), (7, .int .i64 s_9), (8, .int .i64 s_10), (22, .slice a28 ((v_4).length) c29), (23, .int .i64 ((v_4).length : Int)), (24, .int .i64 s_6), (70, .bool s_14)] (St w0 m m [L33]) ?_ (fun hk85 => ?_)
                · obtain ⟨s_15, hx86, hm53⟩ := bind_some hm53
                  refine WK_meet [(0, .slice a_p0 p0.length c_p0), (2, .slice none 0 0), (3, .slice (some ⟨b3, 0, none⟩) ((List.replicate ((p0.length : Int) : Int).toNat ([] : List Int)).length) c4), (4, .int .i64 s_2), (5, .int .i64 s_6), (6, .int .i64 v_8), (7, .int .i64 s_15), (8, .int .i64 s_10), (22, .slice a28 ((v_4).length) c29), (23, .int .i64 ((v_4).length : Int)), (24, .int .i64 s_6)] (St w0 m m [L33]) ?_ (fun hk87 => ?_)
                  · refine WK_blk ?_
                    refine WK_region ?_
                    refine WO_pure tbok 3 [(0, .slice a_p0 p0.length c_p0), (2, .slice none 0 0), (3, .slice (some ⟨b3, 0, none⟩) ((List.replicate ((p0.length : Int) : Int).toNat ([] : List Int)).length) c4), (4, .int .i64 s_2), (5, .int .i64 s_6), (6, .int .i64 v_8), (7, .int .i64 s_15), (8, .int .i64 (w64 (s_10 + 1))), (22, .slice a28 ((v_4).length) c29), (23, .int .i64 ((v_4).length : Int)), (24, .int .i64 s_6)] rfl ⟨rfl, rfl, rfl, rfl, rfl, rfl, rfl, rfl, rfl, rfl, rfl, trivial⟩ ?_
                    refine WO_end ?_
                    cases hm53
                    refine WK.sub ?_ (WK.cls (fun _ h => h) (hn56 _ () rfl trivial))
                    exact ⟨rfl, rfl, rfl, rfl, rfl, rfl, rfl, rfl, rfl, rfl, rfl, trivial⟩
                  · refine WK_cond (b := s_14) rfl (fun hb88 => ?_) (fun hb88 => ?_)
                    · have hx86 := ifT hb88 hx86
                      refine WK_region ?_
                      refine WO_pure tbok 3 [(0, .slice a_p0 p0.length c_p0), (2, .slice none 0 0), (3, .slice (some ⟨b3, 0, none⟩) ((List.replicate ((p0.length : Int) : Int).toNat ([] : List Int)).length) c4), (4, .int .i64 s_2), (5, .int .i64 s_6), (6, .int .i64 v_8), (7, .int .i64 s_9), (8, .int .i64 s_10), (22, .slice a28 ((v_4).length) c29), (23, .int .i64 ((v_4).length : Int)), (24, .int .i64 s_6), (71, .slice (some ⟨b3, 0, none⟩) ((List.replicate ((p0.length : Int) : Int).toNat ([] : List Int)).length) c4), (73, .int .i64 (w64 (s_2 + 1)))] rfl ⟨rfl, rfl, rfl, rfl, rfl, rfl, rfl, rfl, rfl, rfl, rfl, rfl, rfl, trivial⟩ ?_
                      obtain ⟨v_16, hy89, hx86⟩ := bind_some hx86
                      obtain ⟨hc90, hy89⟩ := ix_some hy89
                      refine WO_index tbok rfl rfl rfl rfl rfl rfl rfl rfl (OwnT.addr hL33) (by simpa using hc90) ?_
                      refine WO_loadT tbok 0 rfl rfl rfl rfl (fun _ h => h) hL33 rfl hy89 rfl rfl (fun a91 c92 L93 hv94 hr95 => ?_)
                      refine WO_pure tbok 1 [(0, .slice a_p0 p0.length c_p0), (2, .slice none 0 0), (3, .slice (some ⟨b3, 0, none⟩) ((List.replicate ((p0.length : Int) : Int).toNat ([] : List Int)).length) c4), (4, .int .i64 s_2), (5, .int .i64 s_6), (6, .int .i64 v_8), (7, .int .i64 s_9), (8, .int .i64 s_10), (22, .slice a28 ((v_4).length) c29), (23, .int .i64 ((v_4).length : Int)), (24, .int .i64 s_6), (75, .slice a91 v_16.length c92), (76, .int .i64 s_10)] rfl ⟨rfl, rfl, rfl, rfl, rfl, rfl, rfl, rfl, rfl, rfl, rfl, rfl, rfl, trivial⟩ ?_
                      obtain ⟨v_17, hy97, hx86⟩ := bind_some hx86
                      obtain ⟨hc98, hy97⟩ := ix_some hy97
                      refine WO_index tbok rfl rfl rfl rfl rfl rfl rfl rfl (OwnE.addr hr95) (by simpa using hc98) ?_
                      refine WO_loadTE (E := (I1 .i64)) tbok (fun _ => rfl) 0 rfl rfl rfl rfl (fun _ h => h) hL33 rfl hv94 hy89 hy97 rfl ?_
                      refine WO_pure tbok 1 [(0, .slice a_p0 p0.length c_p0), (2, .slice none 0 0), (3, .slice (some ⟨b3, 0, none⟩) ((List.replicate ((p0.length : Int) : Int).toNat ([] : List Int)).length) c4), (4, .int .i64 s_2), (5, .int .i64 s_6), (6, .int .i64 v_8), (7, .int .i64 v_17), (8, .int .i64 s_10), (22, .slice a28 ((v_4).length) c29), (23, .int .i64 ((v_4).length : Int)), (24, .int .i64 s_6)] rfl ⟨rfl, rfl, rfl, rfl, rfl, rfl, rfl, rfl, rfl, rfl, rfl, trivial⟩ ?_
                      refine WO_end ?_
                      cases hx86
                      refine WK.sub ?_ (WK.cls (fun _ h => h) hk87)
                      exact ⟨rfl, rfl, rfl, rfl, rfl, rfl, rfl, rfl, rfl, rfl, rfl, trivial⟩
                    · have hx86 := ifF hb88 hx86
                      refine WK_skip ?_
                      cases hx86
                      refine WK.sub ?_ (WK.cls (fun _ h => h) hk87)
                      exact ⟨rfl, rfl, rfl, rfl, rfl, rfl, rfl, rfl, rfl, rfl, rfl, trivial⟩
                · refine WK_region ?_
                  refine WO_pure tbok 3 [(0, .slice a_p0 p0.length c_p0), (2, .slice none 0 0), (3, .slice (some ⟨b3, 0, none⟩) ((List.replicate ((p0.length : Int) : Int).toNat ([] : List Int)).length) c4), (4, .int .i64 s_2), (5, .int .i64 s_6), (6, .int .i64 v_8), (7, .int .i64 s_9), (8, .int .i64 s_10), (22, .slice a28 ((v_4).length) c29), (23, .int .i64 ((v_4).length : Int)), (24, .int .i64 s_6), (46, .bool (decide (0 ≤ s_10)))] rfl ⟨rfl, rfl, rfl, rfl, rfl, rfl, rfl, rfl, rfl, rfl, rfl, rfl, trivial⟩ ?_
                  refine WO_split (d := 46) (b := decide (0 ≤ s_10)) rfl (fun hb99 => ?_) (fun hb99 => ?_)
                  · have hx84 := ifT hb99 hx84
                    refine WO_pure tbok 3 [(0, .slice a_p0 p0.length c_p0), (2, .slice none 0 0), (3, .slice (some ⟨b3, 0, none⟩) ((List.replicate ((p0.length : Int) : Int).toNat ([] : List Int)).length) c4), (4, .int .i64 s_2), (5, .int .i64 s_6), (6, .int .i64 v_8), (7, .int .i64 s_9), (8, .int .i64 s_10), (22, .slice a28 ((v_4).length) c29), (23, .int .i64 ((v_4).length : Int)), (24, .int .i64 s_6), (46, .bool true), (47, .int .i64 s_10), (48, .slice a_p0 p0.length c_p0), (49, .int .i64 s_2)] rfl ⟨rfl, rfl, rfl, rfl, rfl, rfl, rfl, rfl, rfl, rfl, rfl, rfl, rfl, rfl, rfl, trivial⟩ ?_
                    obtain ⟨v_18, hy100, hx84⟩ := bind_some hx84
                    obtain ⟨hc101, hy100⟩ := ix_some hy100
                    refine WO_index tbok rfl rfl rfl rfl rfl rfl rfl rfl (SlR.addr h_p0) hc101 ?_
                    refine WO_loadR tbok rfl rfl rfl rfl (fun _ h => St.sat h) h_p0 hy100 rfl rfl (fun a102 c103 h104 => ?_)
                    refine WO_pure tbok 4 [(0, .slice a_p0 p0.length c_p0), (2, .slice none 0 0), (3, .slice (some ⟨b3, 0, none⟩) ((List.replicate ((p0.length : Int) : Int).toNat ([] : List Int)).length) c4), (4, .int .i64 s_2), (5, .int .i64 s_6), (6, .int .i64 v_8), (7, .int .i64 s_9), (8, .int .i64 s_10), (22, .slice a28 ((v_4).length) c29), (23, .int .i64 ((v_4).length : Int)), (24, .int .i64 s_6), (55, .bool (decide (s_10 < ((v_18).length : Int))))] rfl ⟨rfl, rfl, rfl, rfl, rfl, rfl, rfl, rfl, rfl, rfl, rfl, rfl, trivial⟩ ?_
                    refine WO_split (d := 55) (b := decide (s_10 < ((v_18).length : Int))) rfl (fun hb106 => ?_) (fun hb106 => ?_)
                    · have hx84 := ifT hb106 hx84
                      refine WO_pure tbok 3 [(0, .slice a_p0 p0.length c_p0), (2, .slice none 0 0), (3, .slice (some ⟨b3, 0, none⟩) ((List.replicate ((p0.length : Int) : Int).toNat ([] : List Int)).length) c4), (4, .int .i64 s_2), (5, .int .i64 s_6), (6, .int .i64 v_8), (7, .int .i64 s_9), (8, .int .i64 s_10), (22, .slice a28 ((v_4).length) c29), (23, .int .i64 ((v_4).length : Int)), (24, .int .i64 s_6), (55, .bool true), (58, .bool (decide (s_9 < 0)))] rfl ⟨rfl, rfl, rfl, rfl, rfl, rfl, rfl, rfl, rfl, rfl, rfl, rfl, rfl, trivial⟩ ?_
                      refine WO_split (d := 58) (b := decide (s_9 < 0)) rfl (fun hb107 => ?_) (fun hb107 => ?_)
                      · have hx84 := ifT hb107 hx84
                        refine WO_pure tbok 12 [(0, .slice a_p0 p0.length c_p0), (2, .slice none 0 0), (3, .slice (some ⟨b3, 0, none⟩) ((List.replicate ((p0.length : Int) : Int).toNat ([] : List Int)).length) c4), (4, .int .i64 s_2), (5, .int .i64 s_6), (6, .int .i64 v_8), (7, .int .i64 s_9), (8, .int .i64 s_10), (22, .slice a28 ((v_4).length) c29), (23, .int .i64 ((v_4).length : Int)), (24, .int .i64 s_6), (70, .bool true)] rfl ⟨rfl, rfl, rfl, rfl, rfl, rfl, rfl, rfl, rfl, rfl, rfl, rfl, trivial⟩ ?_
                        refine WO_end ?_
                        cases hx84
                        refine WK.sub ?_ (WK.cls (fun _ h => h) hk85)
                        exact ⟨rfl, rfl, rfl, rfl, rfl, rfl, rfl, rfl, rfl, rfl, rfl, rfl, trivial⟩
                      · have hx84 := ifF hb107 hx84
                        refine WO_pure tbok 3 [(0, .slice a_p0 p0.length c_p0), (2, .slice none 0 0), (3, .slice (some ⟨b3, 0, none⟩) ((List.replicate ((p0.length : Int) : Int).toNat ([] : List Int)).length) c4), (4, .int .i64 s_2), (5, .int .i64 s_6), (6, .int .i64 v_8), (7, .int .i64 s_9), (8, .int .i64 s_10), (22, .slice a28 ((v_4).length) c29), (23, .int .i64 ((v_4).length : Int)), (24, .int .i64 s_6), (55, .bool true), (58, .bool false), (59, .slice (some ⟨b3, 0, none⟩) ((List.replicate ((p0.length : Int) : Int).toNat ([] : List Int)).length) c4), (61, .int .i64 (w64 (s_2 + 1)))] rfl ⟨rfl, rfl, rfl, rfl, rfl, rfl, rfl, rfl, rfl, rfl, rfl, rfl, rfl, rfl, rfl, trivial⟩ ?_
                        obtain ⟨v_19, hy108, hx84⟩ := bind_some hx84
                        obtain ⟨hc109, hy108⟩ := ix_some hy108
                        refine WO_index tbok rfl rfl rfl rfl rfl rfl rfl rfl (OwnT.addr hL33) (by simpa using hc109) ?_
                        refine WO_loadT tbok 0 rfl rfl rfl rfl (fun _ h => h) hL33 rfl hy108 rfl rfl (fun a110 c111 L112 hv113 hr114 => ?_)
                        refine WO_pure tbok 1 [(0, .slice a_p0 p0.length c_p0), (2, .slice none 0 0), (3, .slice (some ⟨b3, 0, none⟩) ((List.replicate ((p0.length : Int) : Int).toNat ([] : List Int)).length) c4), (4, .int .i64 s_2), (5, .int .i64 s_6), (6, .int .i64 v_8), (7, .int .i64 s_9), (8, .int .i64 s_10), (22, .slice a28 ((v_4).length) c29), (23, .int .i64 ((v_4).length : Int)), (24, .int .i64 s_6), (55, .bool true), (58, .bool false), (63, .slice a110 v_19.length c111), (64, .int .i64 s_10)] rfl ⟨rfl, rfl, rfl, rfl, rfl, rfl, rfl, rfl, rfl, rfl, rfl, rfl, rfl, rfl, rfl, trivial⟩ ?_
                        obtain ⟨v_20, hy116, hx84⟩ := bind_some hx84
                        obtain ⟨hc117, hy116⟩ := ix_some hy116
                        refine WO_index tbok rfl rfl rfl rfl rfl rfl rfl rfl (OwnE.addr hr114) (by simpa using hc117) ?_
                        refine WO_loadTE (E := (I1 .i64)) tbok (fun _ => rfl) 0 rfl rfl rfl rfl (fun _ h => h) hL33 rfl hv113 hy108 hy116 rfl ?_
                        refine WO_pure tbok 4 [(0, .slice a_p0 p0.length c_p0), (2, .slice none 0 0), (3, .slice (some ⟨b3, 0, none⟩) ((List.replicate ((p0.length : Int) : Int).toNat ([] : List Int)).length) c4), (4, .int .i64 s_2), (5, .int .i64 s_6), (6, .int .i64 v_8), (7, .int .i64 s_9), (8, .int .i64 s_10), (22, .slice a28 ((v_4).length) c29), (23, .int .i64 ((v_4).length : Int)), (24, .int .i64 s_6), (70, .bool (decide (v_20 < s_9)))] rfl ⟨rfl, rfl, rfl, rfl, rfl, rfl, rfl, rfl, rfl, rfl, rfl, rfl, trivial⟩ ?_
                        refine WO_end ?_
                        cases hx84
                        refine WK.sub ?_ (WK.cls (fun _ h => h) hk85)
                        exact ⟨rfl, rfl, rfl, rfl, rfl, rfl, rfl, rfl, rfl, rfl, rfl, rfl, trivial⟩
                    · have hx84 := ifF hb106 hx84
                      refine WO_pure tbok 15 [(0, .slice a_p0 p0.length c_p0), (2, .slice none 0 0), (3, .slice (some ⟨b3, 0, none⟩) ((List.replicate ((p0.length : Int) : Int).toNat ([] : List Int)).length) c4), (4, .int .i64 s_2), (5, .int .i64 s_6), (6, .int .i64 v_8), (7, .int .i64 s_9), (8, .int .i64 s_10), (22, .slice a28 ((v_4).length) c29), (23, .int .i64 ((v_4).length : Int)), (24, .int .i64 s_6), (70, .bool false)] rfl ⟨rfl, rfl, rfl, rfl, rfl, rfl, rfl, rfl, rfl, rfl, rfl, rfl, trivial⟩ ?_
                      refine WO_end ?_
                      cases hx84
                      refine WK.sub ?_ (WK.cls (fun _ h => h) hk85)
                      exact ⟨rfl, rfl, rfl, rfl, rfl, rfl, rfl, rfl, rfl, rfl, rfl, rfl, trivial⟩
                  · have hx84 := ifF hb99 hx84
                    refine WO_pure tbok 24 [(0, .slice a_p0 p0.length c_p0), (2, .slice none 0 0), (3, .slice (some ⟨b3, 0, none⟩) ((List.replicate ((p0.length : Int) : Int).toNat ([] : List Int)).length) c4), (4, .int .i64 s_2), (5, .int .i64 s_6), (6, .int .i64 v_8), (7, .int .i64 s_9), (8, .int .i64 s_10), (22, .slice a28 ((v_4).length) c29), (23, .int .i64 ((v_4).length : Int)), (24, .int .i64 s_6), (70, .bool false)] rfl ⟨rfl, rfl, rfl, rfl, rfl, rfl, rfl, rfl, rfl, rfl, rfl, rfl, trivial⟩ ?_
                    refine WO_end ?_
                    cases hx84
                    refine WK.sub ?_ (WK.cls (fun _ h => h) hk85)
                    exact ⟨rfl, rfl, rfl, rfl, rfl, rfl, rfl, rfl, rfl, rfl, rfl, rfl, trivial⟩
              · have hm53 := ifF hb83 hm53
                refine WK_exit rfl ?_
                cases hm53
                refine WK.sub ?_ (WK.cls (fun _ h => h) (hk52 (s_9, ()) (hd57 _ rfl)))
                exact ⟨rfl, rfl, rfl, rfl, rfl, rfl, rfl, rfl, rfl, trivial⟩
            · refine WK_region ?_
              refine WO_pure tbok 5 [(0, .slice a_p0 p0.length c_p0), (2, .slice none 0 0), (3, .slice (some ⟨b3, 0, none⟩) ((List.replicate ((p0.length : Int) : Int).toNat ([] : List Int)).length) c4), (4, .int .i64 s_2), (5, .int .i64 s_6), (6, .int .i64 v_8), (7, .int .i64 s_9), (8, .int .i64 s_10), (22, .slice a28 ((v_4).length) c29), (23, .int .i64 ((v_4).length : Int)), (24, .int .i64 s_6), (35, .bool (decide (s_10 ≤ (w64 (s_6 + 1)))))] rfl ⟨rfl, rfl, rfl, rfl, rfl, rfl, rfl, rfl, rfl, rfl, rfl, rfl, trivial⟩ ?_
              refine WO_split (d := 35) (b := decide (s_10 ≤ (w64 (s_6 + 1)))) rfl (fun hb118 => ?_) (fun hb118 => ?_)
              · have hx81 := ifT hb118 hx81
                refine WO_pure tbok 6 [(0, .slice a_p0 p0.length c_p0), (2, .slice none 0 0), (3, .slice (some ⟨b3, 0, none⟩) ((List.replicate ((p0.length : Int) : Int).toNat ([] : List Int)).length) c4), (4, .int .i64 s_2), (5, .int .i64 s_6), (6, .int .i64 v_8), (7, .int .i64 s_9), (8, .int .i64 s_10), (22, .slice a28 ((v_4).length) c29), (23, .int .i64 ((v_4).length : Int)), (24, .int .i64 s_6), (41, .bool (decide (s_2 < (w64 ((p0.length : Int) - 1)))))] rfl ⟨rfl, rfl, rfl, rfl, rfl, rfl, rfl, rfl, rfl, rfl, rfl, rfl, trivial⟩ ?_
                refine WO_end ?_
                cases hx81
                refine WK.sub ?_ (WK.cls (fun _ h => h) hk82)
                exact ⟨rfl, rfl, rfl, rfl, rfl, rfl, rfl, rfl, rfl, rfl, rfl, rfl, trivial⟩
              · have hx81 := ifF hb118 hx81
                refine WO_pure tbok 6 [(0, .slice a_p0 p0.length c_p0), (2, .slice none 0 0), (3, .slice (some ⟨b3, 0, none⟩) ((List.replicate ((p0.length : Int) : Int).toNat ([] : List Int)).length) c4), (4, .int .i64 s_2), (5, .int .i64 s_6), (6, .int .i64 v_8), (7, .int .i64 s_9), (8, .int .i64 s_10), (22, .slice a28 ((v_4).length) c29), (23, .int .i64 ((v_4).length : Int)), (24, .int .i64 s_6), (41, .bool false)] rfl ⟨rfl, rfl, rfl, rfl, rfl, rfl, rfl, rfl, rfl, rfl, rfl, rfl, trivial⟩ ?_
                refine WO_end ?_
                cases hx81
                refine WK.sub ?_ (WK.cls (fun _ h => h) hk82)
                exact ⟨rfl, rfl, rfl, rfl, rfl, rfl, rfl, rfl, rfl, rfl, rfl, rfl, trivial⟩
        · have hm41 := ifF hb47 hm41
          refine WK_exit rfl ?_
          cases hm41
          refine WK.sub ?_ (WK.cls (fun _ h => h) (hk40 (l_5, (vs34, L33)) ⟨(hd45 _ rfl), hL33⟩))
          exact ⟨rfl, rfl, rfl, rfl, trivial⟩
    · have hm16 := ifF hb25 hm16
      refine WK_exit rfl ?_
      cases hm16
      refine WK.sub ?_ (WK.cls (fun _ h => h) (hk15 (l_1, (vs9, L8)) ⟨(hd20 _ rfl), hL8⟩))
      exact ⟨rfl, rfl, trivial⟩
theorem slices_Index_sint_walk {m : Mu} {p0 : List Int} {p1 : Int} {a_p0 : Option Addr} {q_p0 c_p0 : Nat} (h_p0 : SlR (FE (I1 .i64)) 1 m (.slice a_p0 q_p0 c_p0) p0) {r : Int} (hm : slices_Index_sint p0 p1 = some r) :
    Go.E.Spec Try.prog 48 [.slice a_p0 q_p0 c_p0, .int .i64 p1] m (fun v _ _ => v = .int .i64 r) := by
  refine Spec_enter Try.func48 rfl rfl rfl (fun w0 => ?_)
  refine WK.sub (e' := [(0, .slice a_p0 q_p0 c_p0), (1, .int .i64 p1)]) ⟨rfl, rfl, trivial⟩ ?_
  obtain rfl := SlR.qlen h_p0
  refine WK.sub (e' := [(0, .slice a_p0 p0.length c_p0), (1, .int .i64 p1)]) ⟨rfl, rfl, trivial⟩ ?_
  unfold slices_Index_sint at hm
  refine WK_seq ?_
  refine WK_region ?_
  refine WO_pure tbok 1 [(0, .slice a_p0 p0.length c_p0), (1, .int .i64 p1), (4, .int .i64 0)] rfl ⟨rfl, rfl, rfl, trivial⟩ ?_
  refine WO_end ?_
  refine WK_seq ?_
  refine WK_seq ?_
  refine WK_region ?_
  refine WO_pure tbok 3 [(0, .slice a_p0 p0.length c_p0), (1, .int .i64 p1), (4, .int .i64 0), (7, .int .i64 (p0.length : Int)), (8, .int .i64 0)] rfl ⟨rfl, rfl, rfl, rfl, rfl, trivial⟩ ?_
  refine WO_end ?_
  obtain ⟨x2, hx3, hm⟩ := bind_some hm
  refine WK_join (β := Unit × Unit) (fun p => Sum.inr p.1 = x2) (fun p => [(4, .int .i64 0)]) (fun p => St w0 m m []) ?_ (fun hk4 => ?_)
  · rintro ⟨⟨⟩, ⟨⟩⟩ hq10
    subst hq10
    refine WK.sub (e' := [(4, .int .i64 0)]) ⟨rfl, trivial⟩ (WK.cls (C' := St w0 m m []) (fun _ h => h) ?_)
    refine WK_seq ?_
    refine WK_region ?_
    refine WO_pure tbok 1 [(4, .int .i64 (-1))] rfl ⟨rfl, trivial⟩ ?_
    refine WO_end ?_
    cases hm
    exact WK_ret (ret_out (L := []) (RLc_tmp rfl RLc_nil) (List.nil_sublist _) rfl)
  · refine WK_block ?_
    refine WK_loop (S := Int) (G := Unit) (fun s => slices_Index_sint_s1 p0 p1 s) (fun s g => [(0, .slice a_p0 p0.length c_p0), (1, .int .i64 p1), (4, .int .i64 0), (7, .int .i64 (p0.length : Int)), (8, .int .i64 s)]) (fun s g => St w0 m m []) (fun s g => True) FUEL 0 () x2 hx3 trivial ⟨rfl, rfl, rfl, rfl, rfl, trivial⟩ (fun _ h => h) ?_
    rintro s_1 ⟨⟩ o6 fl7 hm5 - hn8 hd9
    have hm5 : slices_Index_sint_s1 p0 p1 s_1 = some o6 := hm5
    unfold slices_Index_sint_s1 at hm5
    refine WK.sub (e' := [(0, .slice a_p0 p0.length c_p0), (1, .int .i64 p1), (4, .int .i64 0), (7, .int .i64 (p0.length : Int)), (8, .int .i64 s_1)]) ⟨rfl, rfl, rfl, rfl, rfl, trivial⟩ (WK.cls (C' := St w0 m m []) (fun _ h => h) ?_)
    refine WK_seq ?_
    refine WK_region ?_
    refine WO_pure tbok 1 [(0, .slice a_p0 p0.length c_p0), (1, .int .i64 p1), (4, .int .i64 0), (7, .int .i64 (p0.length : Int)), (8, .int .i64 s_1), (9, .bool (decide (s_1 < (p0.length : Int))))] rfl ⟨rfl, rfl, rfl, rfl, rfl, rfl, trivial⟩ ?_
    refine WO_end ?_
    refine WK_seq ?_
    refine WK_cond (b := decide (s_1 < (p0.length : Int))) rfl (fun hb11 => ?_) (fun hb11 => ?_)
    · have hm5 := ifT hb11 hm5
      refine WK_skip ?_
      refine WK_seq ?_
      refine WK_block ?_
      refine WK_seq ?_
      refine WK_region ?_
      refine WO_pure tbok 2 [(0, .slice a_p0 p0.length c_p0), (1, .int .i64 p1), (4, .int .i64 0), (5, .int .i64 s_1), (7, .int .i64 (p0.length : Int)), (8, .int .i64 s_1)] rfl ⟨rfl, rfl, rfl, rfl, rfl, rfl, trivial⟩ ?_
      refine WO_end ?_
      refine WK_seq ?_
      refine WK_region ?_
      refine WO_pure tbok 3 [(0, .slice a_p0 p0.length c_p0), (1, .int .i64 p1), (4, .int .i64 0), (5, .int .i64 s_1), (7, .int .i64 (p0.length : Int)), (8, .int .i64 s_1), (11, .int .i64 p1), (12, .slice a_p0 p0.length c_p0), (13, .int .i64 s_1)] rfl ⟨rfl, rfl, rfl, rfl, rfl, rfl, rfl, rfl, rfl, trivial⟩ ?_
      obtain ⟨v_2, hy12, hm5⟩ := bind_some hm5
      obtain ⟨hc13, hy12⟩ := ix_some hy12
      refine WO_index tbok rfl rfl rfl rfl rfl rfl rfl rfl (SlR.addr h_p0) hc13 ?_
      refine WO_loadE tbok rfl rfl rfl rfl (fun _ h => St.sat h) h_p0 hy12 rfl ?_
      refine WO_pure tbok 1 [(0, .slice a_p0 p0.length c_p0), (1, .int .i64 p1), (4, .int .i64 0), (5, .int .i64 s_1), (7, .int .i64 (p0.length : Int)), (8, .int .i64 s_1), (16, .bool (p1 == v_2))] rfl ⟨rfl, rfl, rfl, rfl, rfl, rfl, rfl, trivial⟩ ?_
      refine WO_end ?_
      refine WK_cond (b := p1 == v_2) rfl (fun hb14 => ?_) (fun hb14 => ?_)
      · have hm5 := ifT hb14 hm5
        refine WK_seq ?_
        refine WK_region ?_
        refine WO_pure tbok 2 [(0, .slice a_p0 p0.length c_p0), (1, .int .i64 p1), (4, .int .i64 s_1), (7, .int .i64 (p0.length : Int)), (8, .int .i64 s_1)] rfl ⟨rfl, rfl, rfl, rfl, rfl, trivial⟩ ?_
        refine WO_end ?_
        cases hm5
        have hq := hd9 _ rfl
        subst hq
        have hm : some _ = some _ := hm
        cases hm
        exact WK_ret (ret_out (L := []) (RLc_tmp rfl RLc_nil) (List.nil_sublist _) rfl)
      · have hm5 := ifF hb14 hm5
        refine WK_skip ?_
        refine WK_blk ?_
        refine WK_region ?_
        refine WO_pure tbok 2 [(0, .slice a_p0 p0.length c_p0), (1, .int .i64 p1), (4, .int .i64 0), (7, .int .i64 (p0.length : Int)), (8, .int .i64 (w64 (s_1 + 1)))] rfl ⟨rfl, rfl, rfl, rfl, rfl, trivial⟩ ?_
        refine WO_end ?_
        cases hm5
        refine WK.sub ?_ (WK.cls (fun _ h => h) (hn8 _ () rfl trivial))
        exact ⟨rfl, rfl, rfl, rfl, rfl, trivial⟩
    · have hm5 := ifF hb11 hm5
      refine WK_exit rfl ?_
      cases hm5
      refine WK.sub ?_ (WK.cls (fun _ h => h) (hk4 ((), ()) (hd9 _ rfl)))
      exact ⟨rfl, trivial⟩
def fiduciallaw50_Least_Q (r : List Int × Int) : Value → List Ent → Prop := fun v L => ∃ (a0 : Option Addr) (q0 c0 : Nat), v = .tuple #[.slice a0 q0 c0, .int .i64 r.2] ∧ OwnE 3 1 (I1 .i64) (.slice a0 q0 c0) r.1 L
theorem fiduciallaw50_Least_walk {m : Mu} {p0 : List (List Int)} {a_p0 : Option Addr} {q_p0 c_p0 : Nat} (h_p0 : SlR (RowE (FE (I1 .i64)) 1) 1 m (.slice a_p0 q_p0 c_p0) p0) {r : List Int × Int} (hm : fiduciallaw50_Least p0 = some r) :
    Go.E.Spec Try.prog 23 [.slice a_p0 q_p0 c_p0] m (fun v _ L => fiduciallaw50_Least_Q r v L) := by
  refine Spec_enter Try.func23 rfl rfl rfl (fun w0 => ?_)
  refine WK.sub (e' := [(0, .slice a_p0 q_p0 c_p0)]) ⟨rfl, trivial⟩ ?_
  obtain rfl := SlR.qlen h_p0
  refine WK.sub (e' := [(0, .slice a_p0 p0.length c_p0)]) ⟨rfl, trivial⟩ ?_
  unfold fiduciallaw50_Least at hm
  refine WK_seq ?_
  refine WK_region ?_
  refine WO_pure tbok 2 [(0, .slice a_p0 p0.length c_p0), (2, .slice none 0 0), (3, .int .i64 0)] rfl ⟨rfl, rfl, rfl, trivial⟩ ?_
  refine WO_end ?_
  refine WK_seq ?_
  refine WK_region ?_
  refine WO_pure tbok 1 [(0, .slice a_p0 p0.length c_p0), (2, .slice none 0 0), (3, .int .i64 0), (11, .slice a_p0 p0.length c_p0)] rfl ⟨rfl, rfl, rfl, rfl, trivial⟩ ?_
  obtain ⟨y_1, hc2, hm⟩ := bind_some hm
  refine WO_call2 (fiduciallaw50_Below_Q y_1) rfl rfl trivial rfl rfl rfl rfl ⟨47, #[], #[], rfl, callable_47, fiduciallaw50_Below_walk h_p0 hc2⟩ (fun v7 m8 L6 hle9 hq => ?_)
  obtain ⟨a3, qa3, c4, rfl, h10⟩ := hq
  obtain rfl := SlR.qlen h10
  refine WO.cls (C' := St w0 m m8 [L6]) (fun _ h => h.sub (by simp)) ?_
  refine WO_pure tbok 1 [(0, .slice a_p0 p0.length c_p0), (2, .slice none 0 0), (3, .int .i64 0), (4, .slice a3 ((y_1).length) c4)] rfl ⟨rfl, rfl, rfl, rfl, trivial⟩ ?_
  refine WO_end ?_
  refine WK_seq ?_
  refine WK_region ?_
  refine WO_pure tbok 1 [(0, .slice a_p0 p0.length c_p0), (2, .slice none 0 0), (3, .int .i64 0), (4, .slice a3 ((y_1).length) c4), (13, .slice a3 ((y_1).length) c4)] rfl ⟨rfl, rfl, rfl, rfl, rfl, trivial⟩ ?_
  obtain ⟨v_2, hy11, hm⟩ := bind_some hm
  obtain ⟨hc12, hy11⟩ := ix_some hy11
  refine WO_index tbok rfl rfl rfl rfl rfl rfl rfl rfl (SlR.addr h10) hc12 ?_
  refine WO_loadR tbok rfl rfl rfl rfl (fun _ h => St.sat h) h10 hy11 rfl rfl (fun a13 c14 h15 => ?_)
  obtain ⟨y_3, hc17, hm⟩ := bind_some hm
  refine WO_call0 (.int .i64 y_3) rfl rfl trivial rfl rfl rfl rfl St_closed ⟨41, #[], #[], rfl, callable_41, fun w hw => ⟨_, hw.sat, slices_Min_sint_walk h15 hc17⟩⟩ ?_
  refine WO_pure tbok 1 [(0, .slice a_p0 p0.length c_p0), (2, .slice none 0 0), (3, .int .i64 0), (4, .slice a3 ((y_1).length) c4), (5, .int .i64 y_3)] rfl ⟨rfl, rfl, rfl, rfl, rfl, trivial⟩ ?_
  refine WO_end ?_
  refine WK_seq ?_
  refine WK_region ?_
  refine WO_pure tbok 1 [(0, .slice a_p0 p0.length c_p0), (2, .slice none 0 0), (3, .int .i64 0), (4, .slice a3 ((y_1).length) c4), (5, .int .i64 y_3), (17, .slice a3 ((y_1).length) c4)] rfl ⟨rfl, rfl, rfl, rfl, rfl, rfl, trivial⟩ ?_
  obtain ⟨v_4, hy18, hm⟩ := bind_some hm
  obtain ⟨hc19, hy18⟩ := ix_some hy18
  refine WO_index tbok rfl rfl rfl rfl rfl rfl rfl rfl (SlR.addr h10) hc19 ?_
  refine WO_loadR tbok rfl rfl rfl rfl (fun _ h => St.sat h) h10 hy18 rfl rfl (fun a20 c21 h22 => ?_)
  refine WO_pure tbok 1 [(0, .slice a_p0 p0.length c_p0), (2, .slice none 0 0), (3, .int .i64 0), (4, .slice a3 ((y_1).length) c4), (5, .int .i64 y_3), (19, .slice a20 ((v_4).length) c21), (20, .int .i64 y_3)] rfl ⟨rfl, rfl, rfl, rfl, rfl, rfl, rfl, trivial⟩ ?_
  obtain ⟨y_5, hc24, hm⟩ := bind_some hm
  refine WO_call0 (.int .i64 y_5) rfl rfl trivial rfl rfl rfl rfl St_closed ⟨48, #[], #[], rfl, callable_48, fun w hw => ⟨_, hw.sat, slices_Index_sint_walk h22 hc24⟩⟩ ?_
  refine WO_bslice (E := (I1 .i64)) tbok (fun _ => rfl) (by decide) [.int .i64 y_5] ([y_5] : List Int) rfl rfl trivial rfl rfl rfl rfl rfl rfl rfl rfl rfl rfl rfl rfl (fun b25 hb25 => ?_)
  refine WO.cls (C' := St w0 m m8 [L6, [⟨b25, 3, ([y_5] : List Int).flatMap (I1 .i64)⟩]]) (fun _ h => h) ?_
  refine WO_pure tbok 1 [(0, .slice a_p0 p0.length c_p0), (2, .slice none 0 0), (3, .int .i64 0), (4, .slice a3 ((y_1).length) c4), (5, .int .i64 y_3), (6, .slice (some ⟨b25, 0, none⟩) 1 1)] rfl ⟨rfl, rfl, rfl, rfl, rfl, rfl, trivial⟩ ?_
  refine WO_end ?_
  refine WK_seq ?_
  refine WK_seq ?_
  refine WK_region ?_
  refine WO_pure tbok 1 [(0, .slice a_p0 p0.length c_p0), (2, .slice none 0 0), (3, .int .i64 0), (4, .slice a3 ((y_1).length) c4), (5, .int .i64 y_3), (6, .slice (some ⟨b25, 0, none⟩) 1 1), (7, .int .i64 1)] rfl ⟨rfl, rfl, rfl, rfl, rfl, rfl, rfl, trivial⟩ ?_
  refine WO_end ?_
  obtain ⟨x37, hx38, hm⟩ := bind_some hm
  refine WK_join (β := (List Int) × (Option Addr × Nat × Nat × List Ent)) (fun p => p.1 = x37 ∧ OwnE 3 1 (I1 .i64) (.slice p.2.1 p.2.2.1 p.2.2.2.1) p.1 p.2.2.2.2) (fun p => [(2, .slice none 0 0), (3, .int .i64 0), (5, .int .i64 y_3), (6, .slice p.2.1 p.2.2.1 p.2.2.2.1)]) (fun p => St w0 m m8 [L6, p.2.2.2.2]) ?_ (fun hk39 => ?_)
  · rintro ⟨l_8, ⟨a34, q35, c36, L33⟩⟩ ⟨hq45, hL33⟩
    subst hq45
    have hqq : q35 = l_8.length := OwnE.qlen hL33
    subst hqq
    refine WK.sub (e' := [(2, .slice none 0 0), (3, .int .i64 0), (5, .int .i64 y_3), (6, .slice a34 ((l_8).length) c36)]) ⟨rfl, rfl, rfl, rfl, trivial⟩ (WK.cls (C' := St w0 m m8 [L6, L33]) (fun _ h => h) ?_)
    refine WK_seq ?_
    refine WK_region ?_
    refine WO_pure tbok 4 [(2, .slice a34 ((l_8).length) c36), (3, .int .i64 y_3)] rfl ⟨rfl, rfl, trivial⟩ ?_
    refine WO_end ?_
    cases hm
    exact WK_ret (ret_out (L := L33) (RLc_tmp rfl (RLc_tmp rfl RLc_nil)) (seg_sub 1 rfl) ⟨a34, _, c36, rfl, hL33⟩)
  · refine WK_block ?_
    refine WK_loop (S := List Int × Int) (G := Option Addr × Nat × Nat × List Ent) (fun s => fiduciallaw50_Least_s1 p0 y_1 s.1 s.2) (fun s g => [(0, .slice a_p0 p0.length c_p0), (2, .slice none 0 0), (3, .int .i64 0), (4, .slice a3 ((y_1).length) c4), (5, .int .i64 y_3), (6, .slice g.1 g.2.1 g.2.2.1), (7, .int .i64 s.2)]) (fun s g => St w0 m m8 [L6, g.2.2.2]) (fun s g => OwnE 3 1 (I1 .i64) (.slice g.1 g.2.1 g.2.2.1) s.1 g.2.2.2) FUEL (([y_5] : List Int), 1) (some ⟨b25, 0, none⟩, 1, 1, [⟨b25, 3, ([y_5] : List Int).flatMap (I1 .i64)⟩]) x37 hx38 hb25 ⟨rfl, rfl, rfl, rfl, rfl, rfl, rfl, trivial⟩ (fun _ h => h) ?_
    rintro ⟨l_6, s_7⟩ ⟨a29, q30, c31, L28⟩ o41 fl42 hm40 hL28 hn43 hd44
    have hm40 : fiduciallaw50_Least_s1 p0 y_1 l_6 s_7 = some o41 := hm40
    unfold fiduciallaw50_Least_s1 at hm40
    have hqq : q30 = l_6.length := OwnE.qlen hL28
    subst hqq
    refine WK.sub (e' := [(0, .slice a_p0 p0.length c_p0), (2, .slice none 0 0), (3, .int .i64 0), (4, .slice a3 ((y_1).length) c4), (5, .int .i64 y_3), (6, .slice a29 ((l_6).length) c31), (7, .int .i64 s_7)]) ⟨rfl, rfl, rfl, rfl, rfl, rfl, rfl, trivial⟩ (WK.cls (C' := St w0 m m8 [L6, L28]) (fun _ h => h) ?_)
    refine WK_seq ?_
    refine WK_seq ?_
    refine WK_region ?_
    refine WO_pure tbok 4 [(0, .slice a_p0 p0.length c_p0), (2, .slice none 0 0), (3, .int .i64 0), (4, .slice a3 ((y_1).length) c4), (5, .int .i64 y_3), (6, .slice a29 ((l_6).length) c31), (7, .int .i64 s_7), (26, .bool (decide (s_7 < (p0.length : Int))))] rfl ⟨rfl, rfl, rfl, rfl, rfl, rfl, rfl, rfl, trivial⟩ ?_
    refine WO_end ?_
    refine WK_cond (b := decide (s_7 < (p0.length : Int))) rfl (fun hb46 => ?_) (fun hb46 => ?_)
    · have hm40 := ifT hb46 hm40
      refine WK_skip ?_
      refine WK_seq ?_
      refine WK_block ?_
      refine WK_seq ?_
      refine WK_region ?_
      refine WO_pure tbok 3 [(0, .slice a_p0 p0.length c_p0), (2, .slice none 0 0), (3, .int .i64 0), (4, .slice a3 ((y_1).length) c4), (5, .int .i64 y_3), (6, .slice a29 ((l_6).length) c31), (7, .int .i64 s_7), (29, .slice a29 ((l_6).length) c31), (31, .int .i64 (w64 (s_7 - 1)))] rfl ⟨rfl, rfl, rfl, rfl, rfl, rfl, rfl, rfl, rfl, trivial⟩ ?_
      obtain ⟨v_9, hy47, hm40⟩ := bind_some hm40
      obtain ⟨hc48, hy47⟩ := ix_some hy47
      refine WO_index tbok rfl rfl rfl rfl rfl rfl rfl rfl (OwnE.addr hL28) (by simpa using hc48) ?_
      refine WO_loadO (E := (I1 .i64)) tbok (fun _ => rfl) 1 rfl rfl rfl rfl (fun _ h => h) hL28 rfl hy47 rfl ?_
      refine WO_pure tbok 1 [(0, .slice a_p0 p0.length c_p0), (2, .slice none 0 0), (3, .int .i64 0), (4, .slice a3 ((y_1).length) c4), (5, .int .i64 y_3), (6, .slice a29 ((l_6).length) c31), (7, .int .i64 s_7), (8, .int .i64 v_9)] rfl ⟨rfl, rfl, rfl, rfl, rfl, rfl, rfl, rfl, trivial⟩ ?_
      refine WO_end ?_
      refine WK_seq ?_
      refine WK_region ?_
      refine WO_pure tbok 1 [(0, .slice a_p0 p0.length c_p0), (2, .slice none 0 0), (3, .int .i64 0), (4, .slice a3 ((y_1).length) c4), (5, .int .i64 y_3), (6, .slice a29 ((l_6).length) c31), (7, .int .i64 s_7), (8, .int .i64 v_9), (9, .int .i64 (-1))] rfl ⟨rfl, rfl, rfl, rfl, rfl, rfl, rfl, rfl, rfl, trivial⟩ ?_
      refine WO_end ?_
      refine WK_seq ?_
      refine WK_seq ?_
      refine WK_region ?_
      refine WO_pure tbok 4 [(0, .slice a_p0 p0.length c_p0), (2, .slice none 0 0), (3, .int .i64 0), (4, .slice a3 ((y_1).length) c4), (5, .int .i64 y_3), (6, .slice a29 ((l_6).length) c31), (7, .int .i64 s_7), (8, .int .i64 v_9), (9, .int .i64 (-1)), (10, .int .i64 (if 0 < (w64 (v_9 - 1)) then (w64 (v_9 - 1)) else 0))] rfl ⟨rfl, rfl, rfl, rfl, rfl, rfl, rfl, rfl, rfl, rfl, trivial⟩ ?_
      refine WO_end ?_
      obtain ⟨x49, hx50, hm40⟩ := bind_some hm40
      refine WK_join (β := Int × Unit) (fun p => p.1 = x49) (fun p => [(0, .slice a_p0 p0.length c_p0), (2, .slice none 0 0), (3, .int .i64 0), (4, .slice a3 ((y_1).length) c4), (5, .int .i64 y_3), (6, .slice a29 ((l_6).length) c31), (7, .int .i64 s_7), (9, .int .i64 p.1)]) (fun p => St w0 m m8 [L6, L28]) ?_ (fun hk51 => ?_)
      · rintro ⟨s_12, ⟨⟩⟩ hq57
        subst hq57
        refine WK.sub (e' := [(0, .slice a_p0 p0.length c_p0), (2, .slice none 0 0), (3, .int .i64 0), (4, .slice a3 ((y_1).length) c4), (5, .int .i64 y_3), (6, .slice a29 ((l_6).length) c31), (7, .int .i64 s_7), (9, .int .i64 s_12)]) ⟨rfl, rfl, rfl, rfl, rfl, rfl, rfl, rfl, trivial⟩ (WK.cls (C' := St w0 m m8 [L6, L28]) (fun _ h => h) ?_)
        refine WK_region ?_
        refine WO_pure tbok 2 [(0, .slice a_p0 p0.length c_p0), (2, .slice none 0 0), (3, .int .i64 0), (4, .slice a3 ((y_1).length) c4), (5, .int .i64 y_3), (6, .slice a29 ((l_6).length) c31), (7, .int .i64 s_7), (69, .slice a29 ((l_6).length) c31), (70, .int .i64 s_12)] rfl ⟨rfl, rfl, rfl, rfl, rfl, rfl, rfl, rfl, rfl, trivial⟩ ?_
        refine WO_bslice (E := (I1 .i64)) tbok (fun _ => rfl) (by decide) [.int .i64 s_12] ([s_12] : List Int) rfl rfl trivial rfl rfl rfl rfl rfl rfl rfl rfl rfl rfl rfl rfl (fun b58 hb58 => ?_)
        refine WO.cls (C' := St w0 m m8 [L6, L28, [⟨b58, 3, ([s_12] : List Int).flatMap (I1 .i64)⟩]]) (fun _ h => h) ?_
        obtain ⟨hc60, hm40⟩ := chk_some hm40
        refine WO_append (E := (I1 .i64)) tbok (fun _ => rfl) 1 ([s_12] : List Int) (fun _ _ => rfl) rfl rfl rfl rfl rfl rfl rfl rfl rfl rfl rfl rfl hL28 rfl (src_seg (j := 2) rfl) (ap_ok (by decide) hc60) (ap_max hc60) (fun a61 c62 L63 hL63 => ?_)
        refine WO.cls (C' := St w0 m m8 [L6, L63, [⟨b58, 3, ([s_12] : List Int).flatMap (I1 .i64)⟩]]) (fun _ h => h) ?_
        refine WO_pure tbok 1 [(0, .slice a_p0 p0.length c_p0), (2, .slice none 0 0), (3, .int .i64 0), (4, .slice a3 ((y_1).length) c4), (5, .int .i64 y_3), (6, .slice a61 ((l_6 ++ ([s_12] : List Int)).length) c62), (7, .int .i64 s_7)] rfl ⟨rfl, rfl, rfl, rfl, rfl, rfl, rfl, trivial⟩ ?_
        refine WO_end ?_
        refine WK_blk ?_
        refine WK_region ?_
        refine WO_pure tbok 3 [(0, .slice a_p0 p0.length c_p0), (2, .slice none 0 0), (3, .int .i64 0), (4, .slice a3 ((y_1).length) c4), (5, .int .i64 y_3), (6, .slice a61 ((l_6 ++ ([s_12] : List Int)).length) c62), (7, .int .i64 (w64 (s_7 + 1)))] rfl ⟨rfl, rfl, rfl, rfl, rfl, rfl, rfl, trivial⟩ ?_
        refine WO_end ?_
        cases hm40
        refine WK.sub ?_ (WK.cls (fun _ h => St.take 2 h) (hn43 _ (a61, (l_6 ++ ([s_12] : List Int)).length, c62, L63) rfl hL63))
        exact ⟨rfl, rfl, rfl, rfl, rfl, rfl, rfl, trivial⟩
      · refine WK_block ?_
        refine WK_loop (S := Int × Int) (G := Unit) (fun s => fiduciallaw50_Least_s2 p0 y_1 s_7 v_9 s.1 s.2) (fun s g => [(0, .slice a_p0 p0.length c_p0), (2, .slice none 0 0), (3, .int .i64 0), (4, .slice a3 ((y_1).length) c4), (5, .int .i64 y_3), (6, .slice a29 ((l_6).length) c31), (7, .int .i64 s_7), (8, .int .i64 v_9), (9, .int .i64 s.1), (10, .int .i64 s.2)]) (fun s g => St w0 m m8 [L6, L28]) (fun s g => True) FUEL ((-1), (if 0 < (w64 (v_9 - 1)) then (w64 (v_9 - 1)) else 0)) () x49 hx50 trivial ⟨rfl, rfl, rfl, rfl, rfl, rfl, rfl, rfl, rfl, rfl, trivial⟩ (fun _ h => h) ?_
        rintro ⟨s_10, s_11⟩ ⟨⟩ o53 fl54 hm52 - hn55 hd56
        have hm52 : fiduciallaw50_Least_s2 p0 y_1 s_7 v_9 s_10 s_11 = some o53 := hm52
        unfold fiduciallaw50_Least_s2 at hm52
        refine WK.sub (e' := [(0, .slice a_p0 p0.length c_p0), (2, .slice none 0 0), (3, .int .i64 0), (4, .slice a3 ((y_1).length) c4), (5, .int .i64 y_3), (6, .slice a29 ((l_6).length) c31), (7, .int .i64 s_7), (8, .int .i64 v_9), (9, .int .i64 s_10), (10, .int .i64 s_11)]) ⟨rfl, rfl, rfl, rfl, rfl, rfl, rfl, rfl, rfl, rfl, trivial⟩ (WK.cls (C' := St w0 m m8 [L6, L28]) (fun _ h => h) ?_)
        refine WK_seq ?_
        refine WK_seq ?_
        refine WK_region ?_
        refine WO_pure tbok 4 [(0, .slice a_p0 p0.length c_p0), (2, .slice none 0 0), (3, .int .i64 0), (4, .slice a3 ((y_1).length) c4), (5, .int .i64 y_3), (6, .slice a29 ((l_6).length) c31), (7, .int .i64 s_7), (8, .int .i64 v_9), (9, .int .i64 s_10), (10, .int .i64 s_11), (37, .int .i64 s_11), (39, .int .i64 (w64 (v_9 + 1))), (40, .slice a_p0 p0.length c_p0)] rfl ⟨rfl, rfl, rfl, rfl, rfl, rfl, rfl, rfl, rfl, rfl, rfl, rfl, rfl, trivial⟩ ?_
        obtain ⟨v_13, hy65, hm52⟩ := bind_some hm52
        obtain ⟨hc66, hy65⟩ := ix_some hy65
        refine WO_index tbok rfl rfl rfl rfl rfl rfl rfl rfl (SlR.addr (h_p0.mono (mono_RowE (mono_FE _) _) hle9)) hc66 ?_
        refine WO_loadR tbok rfl rfl rfl rfl (fun _ h => St.sat h) (h_p0.mono (mono_RowE (mono_FE _) _) hle9) hy65 rfl rfl (fun a67 c68 h69 => ?_)
        refine WO_pure tbok 4 [(0, .slice a_p0 p0.length c_p0), (2, .slice none 0 0), (3, .int .i64 0), (4, .slice a3 ((y_1).length) c4), (5, .int .i64 y_3), (6, .slice a29 ((l_6).length) c31), (7, .int .i64 s_7), (8, .int .i64 v_9), (9, .int .i64 s_10), (10, .int .i64 s_11), (46, .bool (decide (s_11 ≤ (if (w64 (((v_13).length : Int) - 1)) < (w64 (v_9 + 1)) then (w64 (((v_13).length : Int) - 1)) else (w64 (v_9 + 1))))))] rfl ⟨rfl, rfl, rfl, rfl, rfl, rfl, rfl, rfl, rfl, rfl, rfl, trivial⟩ ?_
        refine WO_end ?_
        refine WK_cond (b := decide (s_11 ≤ (if (w64 (((v_13).length : Int) - 1)) < (w64 (v_9 + 1)) then (w64 (((v_13).length : Int) - 1)) else (w64 (v_9 + 1))))) rfl (fun hb71 => ?_) (fun hb71 => ?_)
        · have hm52 := ifT hb71 hm52
          refine WK_skip ?_
          refine WK_seq ?_
          refine WK_block ?_
          refine WK_seq ?_
          obtain ⟨s_14, hx72, hm52⟩ := bind_some hm52
          refine WK_meet [(0, .slice a_p0 p0.length c_p0), (2, .slice none 0 0), (3, .int .i64 0), (4, .slice a3 ((y_1).length) c4), (5, .int .i64 y_3), (6, .slice a29 ((l_6).length) c31), (7, .int .i64 s_7), (8, .int .i64 v_9), (9, .int .i64 s_10), (10, .int .i64 s_11), (67, .bool s_14)] (St w0 m m8 [L6, L28]) ?_ (fun hk73 => ?_)
          · obtain ⟨s_15, hx74, hm52⟩ := bind_some hm52
            refine WK_meet [(0, .slice a_p0 p0.length c_p0), (2, .slice none 0 0), (3, .int .i64 0), (4, .slice a3 ((y_1).length) c4), (5, .int .i64 y_3), (6, .slice a29 ((l_6).length) c31), (7, .int .i64 s_7), (8, .int .i64 v_9), (9, .int .i64 s_15), (10, .int .i64 s_11)] (St w0 m m8 [L6, L28]) ?_ (fun hk75 => ?_)
            · refine WK_blk ?_
              refine WK_region ?_
              refine WO_pure tbok 3 [(0, .slice a_p0 p0.length c_p0), (2, .slice none 0 0), (3, .int .i64 0), (4, .slice a3 ((y_1).length) c4), (5, .int .i64 y_3), (6, .slice a29 ((l_6).length) c31), (7, .int .i64 s_7), (8, .int .i64 v_9), (9, .int .i64 s_15), (10, .int .i64 (w64 (s_11 + 1)))] rfl ⟨rfl, rfl, rfl, rfl, rfl, rfl, rfl, rfl, rfl, rfl, trivial⟩ ?_
              refine WO_end ?_
              cases hm52
              refine WK.sub ?_ (WK.cls (fun _ h => h) (hn55 _ () rfl trivial))
              exact ⟨rfl, rfl, rfl, rfl, rfl, rfl, rfl, rfl, rfl, rfl, trivial⟩
            · refine WK_cond (b := s_14) rfl (fun hb76 => ?_) (fun hb76 => ?_)
              · have hx74 := ifT hb76 hx74
                refine WK_region ?_
                refine WO_pure tbok 2 [(0, .slice a_p0 p0.length c_p0), (2, .slice none 0 0), (3, .int .i64 0), (4, .slice a3 ((y_1).length) c4), (5, .int .i64 y_3), (6, .slice a29 ((l_6).length) c31), (7, .int .i64 s_7), (8, .int .i64 v_9), (9, .int .i64 s_11), (10, .int .i64 s_11)] rfl ⟨rfl, rfl, rfl, rfl, rfl, rfl, rfl, rfl, rfl, rfl, trivial⟩ ?_
                refine WO_end ?_
                cases hx74
                refine WK.sub ?_ (WK.cls (fun _ h => h) hk75)
                exact ⟨rfl, rfl, rfl, rfl, rfl, rfl, rfl, rfl, rfl, rfl, trivial⟩
              · have hx74 := ifF hb76 hx74
                refine WK_skip ?_
                cases hx74
                refine WK.sub ?_ (WK.cls (fun _ h => h) hk75)
                exact ⟨rfl, rfl, rfl, rfl, rfl, rfl, rfl, rfl, rfl, rfl, trivial⟩
          · refine WK_draw 19 [0, 1, 2, 3, 4, 5, 6, 7, 8, 9, 10, 11, 12, 13, 14, 15, 16, 17, 18] follows_ok (by kernel_rfl) St_closed ?_
            refine WO_pure tbok 3 [(0, .slice a_p0 p0.length c_p0), (2, .slice none 0 0), (3, .int .i64 0), (4, .slice a3 ((y_1).length) c4), (5, .int .i64 y_3), (6, .slice a29 ((l_6).length) c31), (7, .int .i64 s_7), (8, .int .i64 v_9), (9, .int .i64 s_10), (10, .int .i64 s_11), (51, .bool (decide (s_10 < 0)))] rfl ⟨rfl, rfl, rfl, rfl, rfl, rfl, rfl, rfl, rfl, rfl, rfl, trivial⟩ ?_
            refine WO_split (d := 51) (b := decide (s_10 < 0)) rfl (fun hb77 => ?_) (fun hb77 => ?_)
            · have hx72 := ifT hb77 hx72
              refine WO_pure tbok 16 [(0, .slice a_p0 p0.length c_p0), (2, .slice none 0 0), (3, .int .i64 0), (4, .slice a3 ((y_1).length) c4), (5, .int .i64 y_3), (6, .slice a29 ((l_6).length) c31), (7, .int .i64 s_7), (8, .int .i64 v_9), (9, .int .i64 s_10), (10, .int .i64 s_11), (67, .bool true)] rfl ⟨rfl, rfl, rfl, rfl, rfl, rfl, rfl, rfl, rfl, rfl, rfl, trivial⟩ ?_
              refine WO_tail ?_
              refine WO_end ?_
              cases hx72
              refine WK.sub ?_ (WK.cls (fun _ h => h) hk73)
              exact ⟨rfl, rfl, rfl, rfl, rfl, rfl, rfl, rfl, rfl, rfl, rfl, trivial⟩
            · have hx72 := ifF hb77 hx72
              refine WO_pure tbok 2 [(0, .slice a_p0 p0.length c_p0), (2, .slice none 0 0), (3, .int .i64 0), (4, .slice a3 ((y_1).length) c4), (5, .int .i64 y_3), (6, .slice a29 ((l_6).length) c31), (7, .int .i64 s_7), (8, .int .i64 v_9), (9, .int .i64 s_10), (10, .int .i64 s_11), (51, .bool false), (52, .slice a3 ((y_1).length) c4), (53, .int .i64 s_7)] rfl ⟨rfl, rfl, rfl, rfl, rfl, rfl, rfl, rfl, rfl, rfl, rfl, rfl, rfl, trivial⟩ ?_
              obtain ⟨v_16, hy78, hx72⟩ := bind_some hx72
              obtain ⟨hc79, hy78⟩ := ix_some hy78
              refine WO_index tbok rfl rfl rfl rfl rfl rfl rfl rfl (SlR.addr h10) hc79 ?_
              refine WO_loadR tbok rfl rfl rfl rfl (fun _ h => St.sat h) h10 hy78 rfl rfl (fun a80 c81 h82 => ?_)
              refine WO_pure tbok 1 [(0, .slice a_p0 p0.length c_p0), (2, .slice none 0 0), (3, .int .i64 0), (4, .slice a3 ((y_1).length) c4), (5, .int .i64 y_3), (6, .slice a29 ((l_6).length) c31), (7, .int .i64 s_7), (8, .int .i64 v_9), (9, .int .i64 s_10), (10, .int .i64 s_11), (51, .bool false), (55, .slice a80 ((v_16).length) c81), (56, .int .i64 s_11)] rfl ⟨rfl, rfl, rfl, rfl, rfl, rfl, rfl, rfl, rfl, rfl, rfl, rfl, rfl, trivial⟩ ?_
              obtain ⟨v_17, hy84, hx72⟩ := bind_some hx72
              obtain ⟨hc85, hy84⟩ := ix_some hy84
              refine WO_index tbok rfl rfl rfl rfl rfl rfl rfl rfl (SlR.addr h82) hc85 ?_
              refine WO_loadE tbok rfl rfl rfl rfl (fun _ h => St.sat h) h82 hy84 rfl ?_
              refine WO_pure tbok 2 [(0, .slice a_p0 p0.length c_p0), (2, .slice none 0 0), (3, .int .i64 0), (4, .slice a3 ((y_1).length) c4), (5, .int .i64 y_3), (6, .slice a29 ((l_6).length) c31), (7, .int .i64 s_7), (8, .int .i64 v_9), (9, .int .i64 s_10), (10, .int .i64 s_11), (51, .bool false), (58, .int .i64 v_17), (59, .slice a3 ((y_1).length) c4), (60, .int .i64 s_7)] rfl ⟨rfl, rfl, rfl, rfl, rfl, rfl, rfl, rfl, rfl, rfl, rfl, rfl, rfl, rfl, trivial⟩ ?_
              obtain ⟨v_18, hy86, hx72⟩ := bind_some hx72
              obtain ⟨hc87, hy86⟩ := ix_some hy86
              refine WO_index tbok rfl rfl rfl rfl rfl rfl rfl rfl (SlR.addr h10) hc87 ?_
              refine WO_loadR tbok rfl rfl rfl rfl (fun _ h => St.sat h) h10 hy86 rfl rfl (fun a88 c89 h90 => ?_)
              refine WO_pure tbok 1 [(0, .slice a_p0 p0.length c_p0), (2, .slice none 0 0), (3, .int .i64 0), (4, .slice a3 ((y_1).length) c4), (5, .int .i64 y_3), (6, .slice a29 ((l_6).length) c31), (7, .int .i64 s_7), (8, .int .i64 v_9), (9, .int .i64 s_10), (10, .int .i64 s_11), (51, .bool false), (58, .int .i64 v_17), (62, .slice a88 ((v_18).length) c89), (63, .int .i64 s_10)] rfl ⟨rfl, rfl, rfl, rfl, rfl, rfl, rfl, rfl, rfl, rfl, rfl, rfl, rfl, rfl, trivial⟩ ?_
              obtain ⟨v_19, hy92, hx72⟩ := bind_some hx72
              obtain ⟨hc93, hy92⟩ := ix_some hy92
              refine WO_index tbok rfl rfl rfl rfl rfl rfl rfl rfl (SlR.addr h90) hc93 ?_
              refine WO_loadE tbok rfl rfl rfl rfl (fun _ h => St.sat h) h90 hy92 rfl ?_
              refine WO_pure tbok 2 [(0, .slice a_p0 p0.length c_p0), (2, .slice none 0 0), (3, .int .i64 0), (4, .slice a3 ((y_1).length) c4), (5, .int .i64 y_3), (6, .slice a29 ((l_6).length) c31), (7, .int .i64 s_7), (8, .int .i64 v_9), (9, .int .i64 s_10), (10, .int .i64 s_11), (67, .bool (decide (v_17 < v_19)))] rfl ⟨rfl, rfl, rfl, rfl, rfl, rfl, rfl, rfl, rfl, rfl, rfl, trivial⟩ ?_
              refine WO_tail ?_
              refine WO_end ?_
              cases hx72
              refine WK.sub ?_ (WK.cls (fun _ h => h) hk73)
              exact ⟨rfl, rfl, rfl, rfl, rfl, rfl, rfl, rfl, rfl, rfl, rfl, trivial⟩
        · have hm52 := ifF hb71 hm52
          refine WK_exit rfl ?_
          cases hm52
          refine WK.sub ?_ (WK.cls (fun _ h => h) (hk51 (s_10, ()) (hd56 _ rfl)))
          exact ⟨rfl, rfl, rfl, rfl, rfl, rfl, rfl, rfl, trivial⟩
    · have hm40 := ifF hb46 hm40
      refine WK_exit rfl ?_
      cases hm40
      refine WK.sub ?_ (WK.cls (fun _ h => h) (hk39 (l_6, (a29, _, c31, L28)) ⟨(hd44 _ rfl), hL28⟩))
      exact ⟨rfl, rfl, rfl, rfl, trivial⟩
theorem fiduciallaw50_SeamFinds_walk {m : Mu} {p0 : List (List Int)} {a_p0 : Option Addr} {q_p0 c_p0 : Nat} (h_p0 : SlR (RowE (FE (I1 .i64)) 1) 1 m (.slice a_p0 q_p0 c_p0) p0) {r : Bool} (hm : fiduciallaw50_SeamFinds p0 = some r) :
    Go.E.Spec Try.prog 6 [.slice a_p0 q_p0 c_p0] m (fun v _ _ => v = .bool r) := by
  refine Spec_enter Try.func6 rfl rfl rfl (fun w0 => ?_)
  refine WK.sub (e' := [(0, .slice a_p0 q_p0 c_p0)]) ⟨rfl, trivial⟩ ?_
  obtain rfl := SlR.qlen h_p0
  refine WK.sub (e' := [(0, .slice a_p0 p0.length c_p0)]) ⟨rfl, trivial⟩ ?_
  unfold fiduciallaw50_SeamFinds at hm
  refine WK_seq ?_
  refine WK_region ?_
  refine WO_pure tbok 1 [(0, .slice a_p0 p0.length c_p0), (2, .bool false)] rfl ⟨rfl, rfl, trivial⟩ ?_
  refine WO_end ?_
  refine WK_seq ?_
  refine WK_seq ?_
  refine WK_region ?_
  obtain ⟨y_1, hc2, hm⟩ := bind_some hm
  refine WO_call0 (.bool y_1) rfl rfl trivial rfl rfl rfl rfl St_closed ⟨11, #[], #[], rfl, callable_11, fun w hw => ⟨_, hw.sat, fiduciallaw50_known_walk hc2⟩⟩ ?_
  refine WO_pure tbok 1 [(0, .slice a_p0 p0.length c_p0), (2, .bool false), (9, .bool (!y_1))] rfl ⟨rfl, rfl, rfl, trivial⟩ ?_
  refine WO_end ?_
  refine WK_cond (b := !y_1) rfl (fun hb3 => ?_) (fun hb3 => ?_)
  · have hm := ifT hb3 hm
    refine WK_seq ?_
    refine WK_region ?_
    refine WO_pure tbok 1 [(0, .slice a_p0 p0.length c_p0), (2, .bool false)] rfl ⟨rfl, rfl, trivial⟩ ?_
    refine WO_end ?_
    cases hm
    exact WK_ret (ret_out (L := []) (RLc_tmp rfl RLc_nil) (List.nil_sublist _) rfl)
  · have hm := ifF hb3 hm
    refine WK_skip ?_
    refine WK_seq ?_
    refine WK_seq ?_
    refine WK_region ?_
    refine WO_pure tbok 1 [(0, .slice a_p0 p0.length c_p0), (2, .bool false), (10, .slice a_p0 p0.length c_p0)] rfl ⟨rfl, rfl, rfl, trivial⟩ ?_
    obtain ⟨y_2, hc4, hm⟩ := bind_some hm
    refine WO_call0 (.bool y_2) rfl rfl trivial rfl rfl rfl rfl St_closed ⟨12, #[], #[], rfl, callable_12, fun w hw => ⟨_, hw.sat, fiduciallaw50_Few_walk h_p0 hc4⟩⟩ ?_
    refine WO_pure tbok 1 [(0, .slice a_p0 p0.length c_p0), (2, .bool false), (12, .bool (!y_2))] rfl ⟨rfl, rfl, rfl, trivial⟩ ?_
    refine WO_end ?_
    refine WK_cond (b := !y_2) rfl (fun hb5 => ?_) (fun hb5 => ?_)
    · have hm := ifT hb5 hm
      refine WK_seq ?_
      refine WK_region ?_
      refine WO_pure tbok 1 [(0, .slice a_p0 p0.length c_p0), (2, .bool true)] rfl ⟨rfl, rfl, trivial⟩ ?_
      refine WO_end ?_
      cases hm
      exact WK_ret (ret_out (L := []) (RLc_tmp rfl RLc_nil) (List.nil_sublist _) rfl)
    · have hm := ifF hb5 hm
      refine WK_skip ?_
      refine WK_seq ?_
      refine WK_region ?_
      refine WO_pure tbok 1 [(0, .slice a_p0 p0.length c_p0), (2, .bool false), (14, .slice a_p0 p0.length c_p0)] rfl ⟨rfl, rfl, rfl, trivial⟩ ?_
      obtain ⟨⟨y_3, y_4, y_5, y_6⟩, hc6, hm⟩ := bind_some hm
      refine WO_call2 (seam_Find_Q (y_3, y_4, y_5, y_6)) rfl rfl trivial rfl rfl rfl rfl ⟨19, #[], #[], rfl, callable_19, seam_Find_walk h_p0 hc6⟩ (fun v14 m15 L13 hle16 hq => ?_)
      obtain ⟨a7, qa7, c8, a10, qa10, c11, rfl, h17, h18⟩ := hq
      obtain rfl := SlR.qlen h17
      obtain rfl := SlR.qlen h18
      refine WO.cls (C' := St w0 m m15 [L13]) (fun _ h => h.sub (by simp)) ?_
      refine WO_pure tbok 3 [(0, .slice a_p0 p0.length c_p0), (2, .bool false), (16, .agg #[.slice a7 ((y_3).length) c8, .int .i64 y_4, .slice a10 ((y_5).length) c11]), (17, .int .i64 y_6)] rfl ⟨rfl, rfl, rfl, rfl, trivial⟩ ?_
      refine WO_alloc tbok [.slice none 0 0, .int .i64 0, .slice none 0 0] rfl rfl trivial rfl rfl rfl rfl (fun b19 => ?_)
      refine WO.cls (C' := St w0 m m15 [L13, [⟨b19, 25, [.slice none 0 0, .int .i64 0, .slice none 0 0]⟩]]) (fun _ h => h) ?_
      refine WO_storeB tbok 1 [.slice a7 ((y_3).length) c8, .int .i64 y_4, .slice a10 ((y_5).length) c11] rfl rfl rfl rfl rfl rfl rfl ?_
      refine WO.cls (C' := St w0 m m15 [L13, [⟨b19, 25, [.slice a7 ((y_3).length) c8, .int .i64 y_4, .slice a10 ((y_5).length) c11]⟩]]) (fun _ h => h) ?_
      refine WO_pure tbok 1 [(0, .slice a_p0 p0.length c_p0), (2, .bool false), (3, .pointer (some ⟨b19, 0, none⟩)), (4, .int .i64 y_6)] rfl ⟨rfl, rfl, rfl, rfl, trivial⟩ ?_
      refine WO_end ?_
      refine WK_seq ?_
      refine WK_seq ?_
      refine WK_region ?_
      refine WO_pure tbok 1 [(0, .slice a_p0 p0.length c_p0), (2, .bool false), (3, .pointer (some ⟨b19, 0, none⟩)), (4, .int .i64 y_6), (18, .slice a_p0 p0.length c_p0)] rfl ⟨rfl, rfl, rfl, rfl, rfl, trivial⟩ ?_
      obtain ⟨y_7, hc20, hm⟩ := bind_some hm
      refine WO_call0 (.int .i64 y_7) rfl rfl trivial rfl rfl rfl rfl St_closed ⟨17, #[], #[], rfl, callable_17, fun w hw => ⟨_, hw.sat, fiduciallaw50_Checked_walk (h_p0.mono (mono_RowE (mono_FE _) _) hle16) hc20⟩⟩ ?_
      refine WO_pure tbok 1 [(0, .slice a_p0 p0.length c_p0), (2, .bool false), (3, .pointer (some ⟨b19, 0, none⟩)), (4, .int .i64 y_6), (5, .int .i64 y_7)] rfl ⟨rfl, rfl, rfl, rfl, rfl, trivial⟩ ?_
      refine WO_end ?_
      refine WK_seq ?_
      refine WK_region ?_
      refine WO_pure tbok 2 [(0, .slice a_p0 p0.length c_p0), (2, .bool false), (3, .pointer (some ⟨b19, 0, none⟩)), (4, .int .i64 y_6), (5, .int .i64 y_7), (21, .bool (y_7 != 0))] rfl ⟨rfl, rfl, rfl, rfl, rfl, rfl, trivial⟩ ?_
      refine WO_end ?_
      refine WK_cond (b := y_7 != 0) rfl (fun hb21 => ?_) (fun hb21 => ?_)
      · have hm := ifT hb21 hm
        refine WK_seq ?_
        refine WK_region ?_
        refine WO_pure tbok 4 [(0, .slice a_p0 p0.length c_p0), (2, .bool false), (3, .pointer (some ⟨b19, 0, none⟩)), (4, .int .i64 y_6), (5, .int .i64 y_7), (25, .bool (y_6 == y_7))] rfl ⟨rfl, rfl, rfl, rfl, rfl, rfl, trivial⟩ ?_
        refine WO_split (d := 25) (b := y_6 == y_7) rfl (fun hb22 => ?_) (fun hb22 => ?_)
        · have hm := ifT hb22 hm
          refine WO_loadB tbok 1 rfl rfl rfl rfl (fun _ h => h) rfl rfl ?_
          obtain ⟨y_8, hc23, hm⟩ := bind_some hm
          refine WO_call0 (.bool y_8) rfl rfl trivial rfl rfl rfl rfl St_closed ⟨22, #[], #[], rfl, callable_22, fun w hw => ⟨_, hw.sat, fiduciallaw50_none_walk h17 h18 hc23⟩⟩ ?_
          refine WO_pure tbok 2 [(0, .slice a_p0 p0.length c_p0), (2, .bool false), (3, .pointer (some ⟨b19, 0, none⟩)), (4, .int .i64 y_6), (5, .int .i64 y_7), (29, .bool y_8)] rfl ⟨rfl, rfl, rfl, rfl, rfl, rfl, trivial⟩ ?_
          refine WO_split (d := 29) (b := y_8) rfl (fun hb24 => ?_) (fun hb24 => ?_)
          · have hm := ifT hb24 hm
            refine WO_pure tbok 1 [(0, .slice a_p0 p0.length c_p0), (2, .bool false), (3, .pointer (some ⟨b19, 0, none⟩)), (4, .int .i64 y_6), (5, .int .i64 y_7), (29, .bool true), (30, .slice a_p0 p0.length c_p0)] rfl ⟨rfl, rfl, rfl, rfl, rfl, rfl, rfl, trivial⟩ ?_
            refine WO_loadB tbok 1 rfl rfl rfl rfl (fun _ h => h) rfl rfl ?_
            obtain ⟨y_9, hc25, hm⟩ := bind_some hm
            refine WO_call0 (.int .i64 y_9) rfl rfl trivial rfl rfl rfl rfl St_closed ⟨15, #[], #[], rfl, callable_15, fun w hw => ⟨_, hw.sat, seam_Prove_walk (h_p0.mono (mono_RowE (mono_FE _) _) hle16) h17 h18 hc25⟩⟩ ?_
            refine WO_pure tbok 4 [(0, .slice a_p0 p0.length c_p0), (2, .bool (y_9 == y_7)), (3, .pointer (some ⟨b19, 0, none⟩)), (4, .int .i64 y_6)] rfl ⟨rfl, rfl, rfl, rfl, trivial⟩ ?_
            refine WO_end ?_
            cases hm
            exact WK_ret (ret_out (L := []) (RLc_tmp rfl RLc_nil) (List.nil_sublist _) rfl)
          · have hm := ifF hb24 hm
            refine WO_pure tbok 2 [(0, .slice a_p0 p0.length c_p0), (2, .bool false), (3, .pointer (some ⟨b19, 0, none⟩)), (4, .int .i64 y_6), (5, .int .i64 y_7), (29, .bool false)] rfl ⟨rfl, rfl, rfl, rfl, rfl, rfl, trivial⟩ ?_
            refine WO_skip rfl rfl ?_
            refine WO_pure tbok 4 [(0, .slice a_p0 p0.length c_p0), (2, .bool false), (3, .pointer (some ⟨b19, 0, none⟩)), (4, .int .i64 y_6)] rfl ⟨rfl, rfl, rfl, rfl, trivial⟩ ?_
            refine WO_end ?_
            cases hm
            exact WK_ret (ret_out (L := []) (RLc_tmp rfl RLc_nil) (List.nil_sublist _) rfl)
        · have hm := ifF hb22 hm
          refine WO_pure tbok 1 [(0, .slice a_p0 p0.length c_p0), (2, .bool false), (3, .pointer (some ⟨b19, 0, none⟩)), (4, .int .i64 y_6), (5, .int .i64 y_7), (25, .bool false)] rfl ⟨rfl, rfl, rfl, rfl, rfl, rfl, trivial⟩ ?_
          refine WO_skip rfl rfl ?_
          refine WO_pure tbok 4 [(0, .slice a_p0 p0.length c_p0), (2, .bool false), (3, .pointer (some ⟨b19, 0, none⟩)), (4, .int .i64 y_6), (5, .int .i64 y_7), (29, .bool false)] rfl ⟨rfl, rfl, rfl, rfl, rfl, rfl, trivial⟩ ?_
          refine WO_skip rfl rfl ?_
          refine WO_pure tbok 4 [(0, .slice a_p0 p0.length c_p0), (2, .bool false), (3, .pointer (some ⟨b19, 0, none⟩)), (4, .int .i64 y_6)] rfl ⟨rfl, rfl, rfl, rfl, trivial⟩ ?_
          refine WO_end ?_
          cases hm
          exact WK_ret (ret_out (L := []) (RLc_tmp rfl RLc_nil) (List.nil_sublist _) rfl)
      · have hm := ifF hb21 hm
        refine WK_skip ?_
        refine WK_seq ?_
        refine WK_region ?_
        refine WO_pure tbok 1 [(0, .slice a_p0 p0.length c_p0), (2, .bool false), (3, .pointer (some ⟨b19, 0, none⟩)), (4, .int .i64 y_6), (37, .slice a_p0 p0.length c_p0)] rfl ⟨rfl, rfl, rfl, rfl, rfl, trivial⟩ ?_
        obtain ⟨⟨y_10, y_11⟩, hc26, hm⟩ := bind_some hm
        refine WO_call1 (fiduciallaw50_Least_Q (y_10, y_11)) rfl rfl trivial rfl rfl rfl rfl ⟨23, #[], #[], rfl, callable_23, fun w hw => ⟨_, hw.sat, fiduciallaw50_Least_walk (h_p0.mono (mono_RowE (mono_FE _) _) hle16) hc26⟩⟩ (fun v31 L30 hq => ?_)
        obtain ⟨a27, qa27, c28, rfl, hL30⟩ := hq
        obtain rfl := OwnE.qlen hL30
        refine WO.cls (C' := St w0 m m15 [L13, [⟨b19, 25, [.slice a7 ((y_3).length) c8, .int .i64 y_4, .slice a10 ((y_5).length) c11]⟩], L30]) (fun _ h => h) ?_
        refine WO_pure tbok 5 [(0, .slice a_p0 p0.length c_p0), (2, .bool false), (3, .pointer (some ⟨b19, 0, none⟩)), (4, .int .i64 y_6), (6, .slice a27 ((y_10).length) c28), (7, .int .i64 y_11)] rfl ⟨rfl, rfl, rfl, rfl, rfl, rfl, trivial⟩ ?_
        refine WO_end ?_
        refine WK_seq ?_
        refine WK_region ?_
        refine WO_pure tbok 3 [(0, .slice a_p0 p0.length c_p0), (2, .bool false), (3, .pointer (some ⟨b19, 0, none⟩)), (6, .slice a27 ((y_10).length) c28), (7, .int .i64 y_11), (43, .bool (y_6 == 0))] rfl ⟨rfl, rfl, rfl, rfl, rfl, rfl, trivial⟩ ?_
        refine WO_split (d := 43) (b := y_6 == 0) rfl (fun hb32 => ?_) (fun hb32 => ?_)
        · have hm := ifT hb32 hm
          refine WO_pure tbok 1 [(0, .slice a_p0 p0.length c_p0), (2, .bool false), (3, .pointer (some ⟨b19, 0, none⟩)), (6, .slice a27 ((y_10).length) c28), (7, .int .i64 y_11), (43, .bool true), (44, .pointer (some ⟨b19, 0, none⟩))] rfl ⟨rfl, rfl, rfl, rfl, rfl, rfl, rfl, trivial⟩ ?_
          refine WO_loadB tbok 1 rfl rfl rfl rfl (fun _ h => h) rfl rfl ?_
          refine WO_pure tbok 1 [(0, .slice a_p0 p0.length c_p0), (2, .bool false), (3, .pointer (some ⟨b19, 0, none⟩)), (7, .int .i64 y_11), (43, .bool true), (45, .slice a7 ((y_3).length) c8), (46, .slice a27 ((y_10).length) c28)] rfl ⟨rfl, rfl, rfl, rfl, rfl, rfl, rfl, trivial⟩ ?_
          obtain ⟨y_12, hc33, hm⟩ := bind_some hm
          refine WO_call0 (.bool y_12) rfl rfl trivial rfl rfl rfl rfl St_closed ⟨21, #[], #[], rfl, callable_21, fun w hw => ⟨_, hw.satV, slices_Equal_sint_walk (h17.mono (mono_FE _) hw.leV) (OwnE.rd (E := (I1 .i64)) (k := 1) (fun _ => rfl) hL30 (fun _ hx => hw.memV (i := 2) rfl hx)) hc33⟩⟩ ?_
          refine WO_pure tbok 2 [(0, .slice a_p0 p0.length c_p0), (2, .bool false), (3, .pointer (some ⟨b19, 0, none⟩)), (7, .int .i64 y_11), (49, .bool y_12)] rfl ⟨rfl, rfl, rfl, rfl, rfl, trivial⟩ ?_
          refine WO_split (d := 49) (b := y_12) rfl (fun hb34 => ?_) (fun hb34 => ?_)
          · have hm := ifT hb34 hm
            refine WO_pure tbok 1 [(0, .slice a_p0 p0.length c_p0), (2, .bool false), (3, .pointer (some ⟨b19, 0, none⟩)), (7, .int .i64 y_11), (49, .bool true), (50, .pointer (some ⟨b19, 1, none⟩))] rfl ⟨rfl, rfl, rfl, rfl, rfl, rfl, trivial⟩ ?_
            refine WO_loadB tbok 1 rfl rfl rfl rfl (fun _ h => h) rfl rfl ?_
            refine WO_pure tbok 4 [(0, .slice a_p0 p0.length c_p0), (2, .bool false), (3, .pointer (some ⟨b19, 0, none⟩)), (55, .bool (y_4 == y_11))] rfl ⟨rfl, rfl, rfl, rfl, trivial⟩ ?_
            refine WO_split (d := 55) (b := y_4 == y_11) rfl (fun hb35 => ?_) (fun hb35 => ?_)
            · have hm := ifT hb35 hm
              refine WO_pure tbok 1 [(0, .slice a_p0 p0.length c_p0), (2, .bool false), (3, .pointer (some ⟨b19, 0, none⟩)), (55, .bool true), (56, .slice a_p0 p0.length c_p0)] rfl ⟨rfl, rfl, rfl, rfl, rfl, trivial⟩ ?_
              refine WO_loadB tbok 1 rfl rfl rfl rfl (fun _ h => h) rfl rfl ?_
              obtain ⟨y_13, hc36, hm⟩ := bind_some hm
              refine WO_call0 (.int .i64 y_13) rfl rfl trivial rfl rfl rfl rfl St_closed ⟨16, #[], #[], rfl, callable_16, fun w hw => ⟨_, hw.sat, fiduciallaw50_proved_walk (h_p0.mono (mono_RowE (mono_FE _) _) hle16) h17 h18 hc36⟩⟩ ?_
              refine WO_pure tbok 3 [(0, .slice a_p0 p0.length c_p0), (2, .bool false), (3, .pointer (some ⟨b19, 0, none⟩)), (61, .bool (y_13 == 0))] rfl ⟨rfl, rfl, rfl, rfl, trivial⟩ ?_
              refine WO_split (d := 61) (b := y_13 == 0) rfl (fun hb37 => ?_) (fun hb37 => ?_)
              · have hm := ifT hb37 hm
                refine WO_pure tbok 1 [(2, .bool false), (3, .pointer (some ⟨b19, 0, none⟩)), (61, .bool true), (62, .slice a_p0 p0.length c_p0)] rfl ⟨rfl, rfl, rfl, rfl, trivial⟩ ?_
                refine WO_loadB tbok 1 rfl rfl rfl rfl (fun _ h => h) rfl rfl ?_
                obtain ⟨y_14, hc38, hm⟩ := bind_some hm
                refine WO_call0 (.int .i64 y_14) rfl rfl trivial rfl rfl rfl rfl St_closed ⟨15, #[], #[], rfl, callable_15, fun w hw => ⟨_, hw.sat, seam_Prove_walk (h_p0.mono (mono_RowE (mono_FE _) _) hle16) h17 h18 hc38⟩⟩ ?_
                refine WO_pure tbok 3 [(2, .bool (y_14 == 0))] rfl ⟨rfl, trivial⟩ ?_
                refine WO_end ?_
                cases hm
                exact WK_ret (ret_out (L := []) (RLc_tmp rfl RLc_nil) (List.nil_sublist _) rfl)
              · have hm := ifF hb37 hm
                refine WO_pure tbok 2 [(2, .bool false), (61, .bool false)] rfl ⟨rfl, rfl, trivial⟩ ?_
                refine WO_skip rfl rfl ?_
                refine WO_pure tbok 3 [(2, .bool false)] rfl ⟨rfl, trivial⟩ ?_
                refine WO_end ?_
                cases hm
                exact WK_ret (ret_out (L := []) (RLc_tmp rfl RLc_nil) (List.nil_sublist _) rfl)
            · have hm := ifF hb35 hm
              refine WO_pure tbok 2 [(0, .slice a_p0 p0.length c_p0), (2, .bool false), (3, .pointer (some ⟨b19, 0, none⟩)), (55, .bool false)] rfl ⟨rfl, rfl, rfl, rfl, trivial⟩ ?_
              refine WO_skip rfl rfl ?_
              refine WO_pure tbok 5 [(2, .bool false), (61, .bool false)] rfl ⟨rfl, rfl, trivial⟩ ?_
              refine WO_skip rfl rfl ?_
              refine WO_pure tbok 3 [(2, .bool false)] rfl ⟨rfl, trivial⟩ ?_
              refine WO_end ?_
              cases hm
              exact WK_ret (ret_out (L := []) (RLc_tmp rfl RLc_nil) (List.nil_sublist _) rfl)
          · have hm := ifF hb34 hm
            refine WO_pure tbok 8 [(0, .slice a_p0 p0.length c_p0), (2, .bool false), (3, .pointer (some ⟨b19, 0, none⟩)), (55, .bool false)] rfl ⟨rfl, rfl, rfl, rfl, trivial⟩ ?_
            refine WO_skip rfl rfl ?_
            refine WO_pure tbok 5 [(2, .bool false), (61, .bool false)] rfl ⟨rfl, rfl, trivial⟩ ?_
            refine WO_skip rfl rfl ?_
            refine WO_pure tbok 3 [(2, .bool false)] rfl ⟨rfl, trivial⟩ ?_
            refine WO_end ?_
            cases hm
            exact WK_ret (ret_out (L := []) (RLc_tmp rfl RLc_nil) (List.nil_sublist _) rfl)
        · have hm := ifF hb32 hm
          refine WO_pure tbok 3 [(0, .slice a_p0 p0.length c_p0), (2, .bool false), (3, .pointer (some ⟨b19, 0, none⟩)), (7, .int .i64 y_11), (43, .bool false)] rfl ⟨rfl, rfl, rfl, rfl, rfl, trivial⟩ ?_
          refine WO_skip rfl rfl ?_
          refine WO_pure tbok 10 [(0, .slice a_p0 p0.length c_p0), (2, .bool false), (3, .pointer (some ⟨b19, 0, none⟩)), (55, .bool false)] rfl ⟨rfl, rfl, rfl, rfl, trivial⟩ ?_
          refine WO_skip rfl rfl ?_
          refine WO_pure tbok 5 [(2, .bool false), (61, .bool false)] rfl ⟨rfl, rfl, trivial⟩ ?_
          refine WO_skip rfl rfl ?_
          refine WO_pure tbok 3 [(2, .bool false)] rfl ⟨rfl, trivial⟩ ?_
          refine WO_end ?_
          cases hm
          exact WK_ret (ret_out (L := []) (RLc_tmp rfl RLc_nil) (List.nil_sublist _) rfl)
theorem seam_Total_walk {m : Mu} {p0 : List (List Int)} {p1 : List Int} {a_p0 : Option Addr} {q_p0 c_p0 : Nat} {a_p1 : Option Addr} {q_p1 c_p1 : Nat} (h_p0 : SlR (RowE (FE (I1 .i64)) 1) 1 m (.slice a_p0 q_p0 c_p0) p0) (h_p1 : SlR (FE (I1 .i64)) 1 m (.slice a_p1 q_p1 c_p1) p1) {r : Int × Int} (hm : seam_Total p0 p1 = some r) :
    Go.E.Spec Try.prog 24 [.slice a_p0 q_p0 c_p0, .slice a_p1 q_p1 c_p1] m (fun v _ _ => v = .tuple #[.int .i64 r.1, .int .i64 r.2]) := by
  refine Spec_enter Try.func24 rfl rfl rfl (fun w0 => ?_)
  refine WK.sub (e' := [(0, .slice a_p0 q_p0 c_p0), (1, .slice a_p1 q_p1 c_p1)]) ⟨rfl, rfl, trivial⟩ ?_
  obtain rfl := SlR.qlen h_p0
  obtain rfl := SlR.qlen h_p1
  refine WK.sub (e' := [(0, .slice a_p0 p0.length c_p0), (1, .slice a_p1 p1.length c_p1)]) ⟨rfl, rfl, trivial⟩ ?_
  unfold seam_Total at hm
  refine WK_seq ?_
  refine WK_region ?_
  refine WO_pure tbok 2 [(0, .slice a_p0 p0.length c_p0), (1, .slice a_p1 p1.length c_p1), (4, .int .i64 0), (5, .int .i64 0)] rfl ⟨rfl, rfl, rfl, rfl, trivial⟩ ?_
  refine WO_end ?_
  refine WK_seq ?_
  refine WK_seq ?_
  refine WK_region ?_
  refine WO_pure tbok 1 [(0, .slice a_p0 p0.length c_p0), (1, .slice a_p1 p1.length c_p1), (4, .int .i64 0), (5, .int .i64 0), (9, .slice a_p0 p0.length c_p0)] rfl ⟨rfl, rfl, rfl, rfl, rfl, trivial⟩ ?_
  obtain ⟨y_1, hc3, hm⟩ := bind_some hm
  refine WO_call0 (.int .i64 y_1) rfl rfl trivial rfl rfl rfl rfl St_closed ⟨25, #[], #[], rfl, callable_25, fun w hw => ⟨_, hw.sat, seam_Check_walk h_p0 hc3⟩⟩ ?_
  refine WO_pure tbok 1 [(0, .slice a_p0 p0.length c_p0), (1, .slice a_p1 p1.length c_p1), (4, .int .i64 0), (5, .int .i64 0), (6, .int .i64 y_1)] rfl ⟨rfl, rfl, rfl, rfl, rfl, trivial⟩ ?_
  refine WO_end ?_
  refine WK_seq ?_
  refine WK_region ?_
  refine WO_pure tbok 2 [(0, .slice a_p0 p0.length c_p0), (1, .slice a_p1 p1.length c_p1), (4, .int .i64 0), (5, .int .i64 0), (6, .int .i64 y_1), (12, .bool (y_1 != 0))] rfl ⟨rfl, rfl, rfl, rfl, rfl, rfl, trivial⟩ ?_
  refine WO_end ?_
  refine WK_cond (b := y_1 != 0) rfl (fun hb4 => ?_) (fun hb4 => ?_)
  · have hm := ifT hb4 hm
    refine WK_seq ?_
    refine WK_region ?_
    refine WO_pure tbok 3 [(0, .slice a_p0 p0.length c_p0), (1, .slice a_p1 p1.length c_p1), (4, .int .i64 0), (5, .int .i64 y_1)] rfl ⟨rfl, rfl, rfl, rfl, trivial⟩ ?_
    refine WO_end ?_
    cases hm
    exact WK_ret (ret_out (L := []) (RLc_tmp rfl (RLc_tmp rfl RLc_nil)) (List.nil_sublist _) rfl)
  · have hm := ifF hb4 hm
    refine WK_skip ?_
    refine WK_seq ?_
    refine WK_region ?_
    refine WO_pure tbok 2 [(4, .int .i64 0), (5, .int .i64 0), (15, .slice a_p0 p0.length c_p0), (16, .slice a_p1 p1.length c_p1)] rfl ⟨rfl, rfl, rfl, rfl, trivial⟩ ?_
    obtain ⟨⟨y_2, y_3⟩, hc5, hm⟩ := bind_some hm
    refine WO_call0 (.tuple #[.int .i64 y_2, .bool y_3]) rfl rfl trivial rfl rfl rfl rfl St_closed ⟨39, #[], #[], rfl, callable_39, fun w hw => ⟨_, hw.sat, seam_total_walk h_p0 h_p1 hc5⟩⟩ ?_
    refine WO_pure tbok 5 [(4, .int .i64 0), (5, .int .i64 0), (7, .int .i64 y_2), (8, .bool y_3)] rfl ⟨rfl, rfl, rfl, rfl, trivial⟩ ?_
    refine WO_end ?_
    refine WK_seq ?_
    refine WK_seq ?_
    refine WK_region ?_
    refine WO_pure tbok 2 [(4, .int .i64 0), (5, .int .i64 0), (7, .int .i64 y_2), (21, .bool (!y_3))] rfl ⟨rfl, rfl, rfl, rfl, trivial⟩ ?_
    refine WO_end ?_
    refine WK_cond (b := !y_3) rfl (fun hb6 => ?_) (fun hb6 => ?_)
    · have hm := ifT hb6 hm
      refine WK_seq ?_
      refine WK_region ?_
      refine WO_pure tbok 2 [(4, .int .i64 0), (5, .int .i64 11), (7, .int .i64 y_2)] rfl ⟨rfl, rfl, rfl, trivial⟩ ?_
      refine WO_end ?_
      cases hm
      exact WK_ret (ret_out (L := []) (RLc_tmp rfl (RLc_tmp rfl RLc_nil)) (List.nil_sublist _) rfl)
    · have hm := ifF hb6 hm
      refine WK_skip ?_
      refine WK_seq ?_
      refine WK_region ?_
      refine WO_pure tbok 3 [(4, .int .i64 y_2), (5, .int .i64 0)] rfl ⟨rfl, rfl, trivial⟩ ?_
      refine WO_end ?_
      cases hm
      exact WK_ret (ret_out (L := []) (RLc_tmp rfl (RLc_tmp rfl RLc_nil)) (List.nil_sublist _) rfl)
theorem fiduciallaw50_SeamTotals_walk {m : Mu} {p0 : List (List Int)} {p1 : List Int} {a_p0 : Option Addr} {q_p0 c_p0 : Nat} {a_p1 : Option Addr} {q_p1 c_p1 : Nat} (h_p0 : SlR (RowE (FE (I1 .i64)) 1) 1 m (.slice a_p0 q_p0 c_p0) p0) (h_p1 : SlR (FE (I1 .i64)) 1 m (.slice a_p1 q_p1 c_p1) p1) {r : Bool} (hm : fiduciallaw50_SeamTotals p0 p1 = some r) :
    Go.E.Spec Try.prog 7 [.slice a_p0 q_p0 c_p0, .slice a_p1 q_p1 c_p1] m (fun v _ _ => v = .bool r) := by
  refine Spec_enter Try.func7 rfl rfl rfl (fun w0 => ?_)
  refine WK.sub (e' := [(0, .slice a_p0 q_p0 c_p0), (1, .slice a_p1 q_p1 c_p1)]) ⟨rfl, rfl, trivial⟩ ?_
  obtain rfl := SlR.qlen h_p0
  obtain rfl := SlR.qlen h_p1
  refine WK.sub (e' := [(0, .slice a_p0 p0.length c_p0), (1, .slice a_p1 p1.length c_p1)]) ⟨rfl, rfl, trivial⟩ ?_
  unfold fiduciallaw50_SeamTotals at hm
  refine WK_seq ?_
  refine WK_region ?_
  refine WO_pure tbok 1 [(0, .slice a_p0 p0.length c_p0), (1, .slice a_p1 p1.length c_p1), (4, .bool false)] rfl ⟨rfl, rfl, rfl, trivial⟩ ?_
  refine WO_end ?_
  refine WK_seq ?_
  refine WK_seq ?_
  refine WK_region ?_
  obtain ⟨y_1, hc3, hm⟩ := bind_some hm
  refine WO_call0 (.bool y_1) rfl rfl trivial rfl rfl rfl rfl St_closed ⟨11, #[], #[], rfl, callable_11, fun w hw => ⟨_, hw.sat, fiduciallaw50_known_walk hc3⟩⟩ ?_
  refine WO_pure tbok 1 [(0, .slice a_p0 p0.length c_p0), (1, .slice a_p1 p1.length c_p1), (4, .bool false), (9, .bool (!y_1))] rfl ⟨rfl, rfl, rfl, rfl, trivial⟩ ?_
  refine WO_end ?_
  refine WK_cond (b := !y_1) rfl (fun hb4 => ?_) (fun hb4 => ?_)
  · have hm := ifT hb4 hm
    refine WK_seq ?_
    refine WK_region ?_
    refine WO_pure tbok 1 [(0, .slice a_p0 p0.length c_p0), (1, .slice a_p1 p1.length c_p1), (4, .bool false)] rfl ⟨rfl, rfl, rfl, trivial⟩ ?_
    refine WO_end ?_
    cases hm
    exact WK_ret (ret_out (L := []) (RLc_tmp rfl RLc_nil) (List.nil_sublist _) rfl)
  · have hm := ifF hb4 hm
    refine WK_skip ?_
    refine WK_seq ?_
    refine WK_seq ?_
    obtain ⟨s_2, hx5, hm⟩ := bind_some hm
    refine WK_meet [(0, .slice a_p0 p0.length c_p0), (1, .slice a_p1 p1.length c_p1), (4, .bool false), (17, .bool s_2)] (St w0 m m []) ?_ (fun hk6 => ?_)
    · refine WK_cond (b := s_2) rfl (fun hb7 => ?_) (fun hb7 => ?_)
      · have hm := ifT hb7 hm
        refine WK_seq ?_
        refine WK_region ?_
        refine WO_pure tbok 1 [(0, .slice a_p0 p0.length c_p0), (1, .slice a_p1 p1.length c_p1), (4, .bool true)] rfl ⟨rfl, rfl, rfl, trivial⟩ ?_
        refine WO_end ?_
        cases hm
        exact WK_ret (ret_out (L := []) (RLc_tmp rfl RLc_nil) (List.nil_sublist _) rfl)
      · have hm := ifF hb7 hm
        refine WK_skip ?_
        refine WK_seq ?_
        refine WK_region ?_
        refine WO_pure tbok 2 [(0, .slice a_p0 p0.length c_p0), (1, .slice a_p1 p1.length c_p1), (4, .bool false), (19, .slice a_p0 p0.length c_p0), (20, .slice a_p1 p1.length c_p1)] rfl ⟨rfl, rfl, rfl, rfl, rfl, trivial⟩ ?_
        obtain ⟨⟨y_3, y_4⟩, hc8, hm⟩ := bind_some hm
        refine WO_call0 (.tuple #[.int .i64 y_3, .int .i64 y_4]) rfl rfl trivial rfl rfl rfl rfl St_closed ⟨24, #[], #[], rfl, callable_24, fun w hw => ⟨_, hw.sat, seam_Total_walk h_p0 h_p1 hc8⟩⟩ ?_
        refine WO_pure tbok 5 [(0, .slice a_p0 p0.length c_p0), (1, .slice a_p1 p1.length c_p1), (4, .bool false), (5, .int .i64 y_3), (6, .int .i64 y_4)] rfl ⟨rfl, rfl, rfl, rfl, rfl, trivial⟩ ?_
        refine WO_end ?_
        refine WK_seq ?_
        refine WK_region ?_
        refine WO_pure tbok 1 [(0, .slice a_p0 p0.length c_p0), (1, .slice a_p1 p1.length c_p1), (4, .bool false), (5, .int .i64 y_3), (6, .int .i64 y_4), (24, .slice a_p0 p0.length c_p0)] rfl ⟨rfl, rfl, rfl, rfl, rfl, rfl, trivial⟩ ?_
        obtain ⟨y_5, hc9, hm⟩ := bind_some hm
        refine WO_call0 (.int .i64 y_5) rfl rfl trivial rfl rfl rfl rfl St_closed ⟨17, #[], #[], rfl, callable_17, fun w hw => ⟨_, hw.sat, fiduciallaw50_Checked_walk h_p0 hc9⟩⟩ ?_
        refine WO_pure tbok 1 [(0, .slice a_p0 p0.length c_p0), (1, .slice a_p1 p1.length c_p1), (4, .bool false), (5, .int .i64 y_3), (6, .int .i64 y_4), (7, .int .i64 y_5)] rfl ⟨rfl, rfl, rfl, rfl, rfl, rfl, trivial⟩ ?_
        refine WO_end ?_
        refine WK_seq ?_
        refine WK_seq ?_
        refine WK_region ?_
        refine WO_pure tbok 1 [(0, .slice a_p0 p0.length c_p0), (1, .slice a_p1 p1.length c_p1), (4, .bool false), (5, .int .i64 y_3), (6, .int .i64 y_4), (7, .int .i64 y_5), (26, .slice a_p0 p0.length c_p0)] rfl ⟨rfl, rfl, rfl, rfl, rfl, rfl, rfl, trivial⟩ ?_
        obtain ⟨y_6, hc10, hm⟩ := bind_some hm
        refine WO_call0 (.int .i64 y_6) rfl rfl trivial rfl rfl rfl rfl St_closed ⟨25, #[], #[], rfl, callable_25, fun w hw => ⟨_, hw.sat, seam_Check_walk h_p0 hc10⟩⟩ ?_
        refine WO_pure tbok 2 [(0, .slice a_p0 p0.length c_p0), (1, .slice a_p1 p1.length c_p1), (4, .bool false), (5, .int .i64 y_3), (6, .int .i64 y_4), (7, .int .i64 y_5), (29, .bool (y_6 != y_5))] rfl ⟨rfl, rfl, rfl, rfl, rfl, rfl, rfl, trivial⟩ ?_
        refine WO_end ?_
        refine WK_cond (b := y_6 != y_5) rfl (fun hb11 => ?_) (fun hb11 => ?_)
        · have hm := ifT hb11 hm
          refine WK_seq ?_
          refine WK_region ?_
          refine WO_pure tbok 1 [(0, .slice a_p0 p0.length c_p0), (1, .slice a_p1 p1.length c_p1), (4, .bool false), (5, .int .i64 y_3), (6, .int .i64 y_4), (7, .int .i64 y_5)] rfl ⟨rfl, rfl, rfl, rfl, rfl, rfl, trivial⟩ ?_
          refine WO_end ?_
          cases hm
          exact WK_ret (ret_out (L := []) (RLc_tmp rfl RLc_nil) (List.nil_sublist _) rfl)
        · have hm := ifF hb11 hm
          refine WK_skip ?_
          refine WK_seq ?_
          refine WK_seq ?_
          obtain ⟨s_7, hx12, hm⟩ := bind_some hm
          refine WK_meet [(0, .slice a_p0 p0.length c_p0), (1, .slice a_p1 p1.length c_p1), (4, .bool false), (5, .int .i64 y_3), (6, .int .i64 y_4), (7, .int .i64 y_5), (37, .bool s_7)] (St w0 m m []) ?_ (fun hk13 => ?_)
          · obtain ⟨s_8, hx14, hm⟩ := bind_some hm
            refine WK_meet [(0, .slice a_p0 p0.length c_p0), (1, .slice a_p1 p1.length c_p1), (4, .bool false), (5, .int .i64 y_3), (6, .int .i64 y_4), (7, .int .i64 s_8)] (St w0 m m []) ?_ (fun hk15 => ?_)
            · refine WK_seq ?_
              refine WK_seq ?_
              refine WK_region ?_
              refine WO_pure tbok 2 [(0, .slice a_p0 p0.length c_p0), (1, .slice a_p1 p1.length c_p1), (4, .bool false), (5, .int .i64 y_3), (6, .int .i64 y_4), (7, .int .i64 s_8), (39, .bool (s_8 != 0))] rfl ⟨rfl, rfl, rfl, rfl, rfl, rfl, rfl, trivial⟩ ?_
              refine WO_end ?_
              refine WK_cond (b := s_8 != 0) rfl (fun hb16 => ?_) (fun hb16 => ?_)
              · have hm := ifT hb16 hm
                refine WK_seq ?_
                refine WK_region ?_
                refine WO_pure tbok 4 [(0, .slice a_p0 p0.length c_p0), (1, .slice a_p1 p1.length c_p1), (4, .bool false), (5, .int .i64 y_3), (6, .int .i64 y_4), (43, .bool (y_4 == s_8))] rfl ⟨rfl, rfl, rfl, rfl, rfl, rfl, trivial⟩ ?_
                refine WO_split (d := 43) (b := y_4 == s_8) rfl (fun hb17 => ?_) (fun hb17 => ?_)
                · have hm := ifT hb17 hm
                  refine WO_pure tbok 4 [(0, .slice a_p0 p0.length c_p0), (1, .slice a_p1 p1.length c_p1), (4, .bool (y_3 == 0)), (5, .int .i64 y_3), (6, .int .i64 y_4)] rfl ⟨rfl, rfl, rfl, rfl, rfl, trivial⟩ ?_
                  refine WO_end ?_
                  cases hm
                  exact WK_ret (ret_out (L := []) (RLc_tmp rfl RLc_nil) (List.nil_sublist _) rfl)
                · have hm := ifF hb17 hm
                  refine WO_pure tbok 4 [(0, .slice a_p0 p0.length c_p0), (1, .slice a_p1 p1.length c_p1), (4, .bool false), (5, .int .i64 y_3), (6, .int .i64 y_4)] rfl ⟨rfl, rfl, rfl, rfl, rfl, trivial⟩ ?_
                  refine WO_end ?_
                  cases hm
                  exact WK_ret (ret_out (L := []) (RLc_tmp rfl RLc_nil) (List.nil_sublist _) rfl)
              · have hm := ifF hb16 hm
                refine WK_skip ?_
                refine WK_seq ?_
                refine WK_region ?_
                refine WO_pure tbok 3 [(0, .slice a_p0 p0.length c_p0), (1, .slice a_p1 p1.length c_p1), (4, .bool false), (5, .int .i64 y_3), (49, .bool (y_4 == 0))] rfl ⟨rfl, rfl, rfl, rfl, rfl, trivial⟩ ?_
                refine WO_split (d := 49) (b := y_4 == 0) rfl (fun hb18 => ?_) (fun hb18 => ?_)
                · have hm := ifT hb18 hm
                  refine WO_pure tbok 3 [(4, .bool false), (49, .bool true), (50, .int .i64 y_3), (51, .slice a_p0 p0.length c_p0), (52, .slice a_p1 p1.length c_p1)] rfl ⟨rfl, rfl, rfl, rfl, rfl, trivial⟩ ?_
                  obtain ⟨y_9, hc19, hm⟩ := bind_some hm
                  refine WO_call0 (.int .i64 y_9) rfl rfl trivial rfl rfl rfl rfl St_closed ⟨27, #[], #[], rfl, callable_27, fun w hw => ⟨_, hw.sat, fiduciallaw50_Total_walk h_p0 h_p1 hc19⟩⟩ ?_
                  refine WO_pure tbok 3 [(4, .bool (y_3 == y_9))] rfl ⟨rfl, trivial⟩ ?_
                  refine WO_end ?_
                  cases hm
                  exact WK_ret (ret_out (L := []) (RLc_tmp rfl RLc_nil) (List.nil_sublist _) rfl)
                · have hm := ifF hb18 hm
                  refine WO_pure tbok 3 [(4, .bool false), (49, .bool false)] rfl ⟨rfl, rfl, trivial⟩ ?_
                  refine WO_skip rfl rfl ?_
                  refine WO_pure tbok 3 [(4, .bool false)] rfl ⟨rfl, trivial⟩ ?_
                  refine WO_end ?_
                  cases hm
                  exact WK_ret (ret_out (L := []) (RLc_tmp rfl RLc_nil) (List.nil_sublist _) rfl)
            · refine WK_cond (b := s_7) rfl (fun hb20 => ?_) (fun hb20 => ?_)
              · have hx14 := ifT hb20 hx14
                refine WK_region ?_
                refine WO_pure tbok 1 [(0, .slice a_p0 p0.length c_p0), (1, .slice a_p1 p1.length c_p1), (4, .bool false), (5, .int .i64 y_3), (6, .int .i64 y_4), (7, .int .i64 11)] rfl ⟨rfl, rfl, rfl, rfl, rfl, rfl, trivial⟩ ?_
                refine WO_end ?_
                cases hx14
                refine WK.sub ?_ (WK.cls (fun _ h => h) hk15)
                exact ⟨rfl, rfl, rfl, rfl, rfl, rfl, trivial⟩
              · have hx14 := ifF hb20 hx14
                refine WK_skip ?_
                cases hx14
                refine WK.sub ?_ (WK.cls (fun _ h => h) hk15)
                exact ⟨rfl, rfl, rfl, rfl, rfl, rfl, trivial⟩
          · refine WK_region ?_
            refine WO_pure tbok 3 [(0, .slice a_p0 p0.length c_p0), (1, .slice a_p1 p1.length c_p1), (4, .bool false), (5, .int .i64 y_3), (6, .int .i64 y_4), (7, .int .i64 y_5), (32, .bool (y_5 == 0))] rfl ⟨rfl, rfl, rfl, rfl, rfl, rfl, rfl, trivial⟩ ?_
            refine WO_split (d := 32) (b := y_5 == 0) rfl (fun hb21 => ?_) (fun hb21 => ?_)
            · have hx12 := ifT hb21 hx12
              refine WO_pure tbok 2 [(0, .slice a_p0 p0.length c_p0), (1, .slice a_p1 p1.length c_p1), (4, .bool false), (5, .int .i64 y_3), (6, .int .i64 y_4), (7, .int .i64 y_5), (32, .bool true), (33, .slice a_p0 p0.length c_p0), (34, .slice a_p1 p1.length c_p1)] rfl ⟨rfl, rfl, rfl, rfl, rfl, rfl, rfl, rfl, rfl, trivial⟩ ?_
              obtain ⟨y_10, hc22, hx12⟩ := bind_some hx12
              refine WO_call0 (.bool y_10) rfl rfl trivial rfl rfl rfl rfl St_closed ⟨26, #[], #[], rfl, callable_26, fun w hw => ⟨_, hw.sat, fiduciallaw50_Right_walk h_p0 h_p1 hc22⟩⟩ ?_
              refine WO_pure tbok 2 [(0, .slice a_p0 p0.length c_p0), (1, .slice a_p1 p1.length c_p1), (4, .bool false), (5, .int .i64 y_3), (6, .int .i64 y_4), (7, .int .i64 y_5), (37, .bool (!y_10))] rfl ⟨rfl, rfl, rfl, rfl, rfl, rfl, rfl, trivial⟩ ?_
              refine WO_end ?_
              cases hx12
              refine WK.sub ?_ (WK.cls (fun _ h => h) hk13)
              exact ⟨rfl, rfl, rfl, rfl, rfl, rfl, rfl, trivial⟩
            · have hx12 := ifF hb21 hx12
              refine WO_pure tbok 2 [(0, .slice a_p0 p0.length c_p0), (1, .slice a_p1 p1.length c_p1), (4, .bool false), (5, .int .i64 y_3), (6, .int .i64 y_4), (7, .int .i64 y_5), (32, .bool false)] rfl ⟨rfl, rfl, rfl, rfl, rfl, rfl, rfl, trivial⟩ ?_
              refine WO_skip rfl rfl ?_
              refine WO_pure tbok 2 [(0, .slice a_p0 p0.length c_p0), (1, .slice a_p1 p1.length c_p1), (4, .bool false), (5, .int .i64 y_3), (6, .int .i64 y_4), (7, .int .i64 y_5), (37, .bool false)] rfl ⟨rfl, rfl, rfl, rfl, rfl, rfl, rfl, trivial⟩ ?_
              refine WO_end ?_
              cases hx12
              refine WK.sub ?_ (WK.cls (fun _ h => h) hk13)
              exact ⟨rfl, rfl, rfl, rfl, rfl, rfl, rfl, trivial⟩
    · refine WK_region ?_
      refine WO_pure tbok 1 [(0, .slice a_p0 p0.length c_p0), (1, .slice a_p1 p1.length c_p1), (4, .bool false), (10, .slice a_p0 p0.length c_p0)] rfl ⟨rfl, rfl, rfl, rfl, trivial⟩ ?_
      obtain ⟨y_11, hc23, hx5⟩ := bind_some hx5
      refine WO_call0 (.bool y_11) rfl rfl trivial rfl rfl rfl rfl St_closed ⟨12, #[], #[], rfl, callable_12, fun w hw => ⟨_, hw.sat, fiduciallaw50_Few_walk h_p0 hc23⟩⟩ ?_
      refine WO_pure tbok 2 [(0, .slice a_p0 p0.length c_p0), (1, .slice a_p1 p1.length c_p1), (4, .bool false), (13, .bool (!y_11))] rfl ⟨rfl, rfl, rfl, rfl, trivial⟩ ?_
      refine WO_split (d := 13) (b := !y_11) rfl (fun hb24 => ?_) (fun hb24 => ?_)
      · have hx5 := ifT hb24 hx5
        refine WO_pure tbok 4 [(0, .slice a_p0 p0.length c_p0), (1, .slice a_p1 p1.length c_p1), (4, .bool false), (17, .bool true)] rfl ⟨rfl, rfl, rfl, rfl, trivial⟩ ?_
        refine WO_end ?_
        cases hx5
        refine WK.sub ?_ (WK.cls (fun _ h => h) hk6)
        exact ⟨rfl, rfl, rfl, rfl, trivial⟩
      · have hx5 := ifF hb24 hx5
        refine WO_pure tbok 4 [(0, .slice a_p0 p0.length c_p0), (1, .slice a_p1 p1.length c_p1), (4, .bool false), (17, .bool (decide (20 < (p1.length : Int))))] rfl ⟨rfl, rfl, rfl, rfl, trivial⟩ ?_
        refine WO_end ?_
        cases hx5
        refine WK.sub ?_ (WK.cls (fun _ h => h) hk6)
        exact ⟨rfl, rfl, rfl, rfl, trivial⟩
theorem fiduciallaw50_SeamOptimal_walk {m : Mu} {p0 : List (List Int)} {p1_0 : List Int} {p1_1 : Int} {p1_2 : List (List Int)} {p2 : List Int} {a_p0 : Option Addr} {q_p0 c_p0 : Nat} {a_p1_0 : Option Addr} {q_p1_0 c_p1_0 : Nat} {a_p1_2 : Option Addr} {q_p1_2 c_p1_2 : Nat} {a_p2 : Option Addr} {q_p2 c_p2 : Nat} (h_p0 : SlR (RowE (FE (I1 .i64)) 1) 1 m (.slice a_p0 q_p0 c_p0) p0) (h_p1_0 : SlR (FE (I1 .i64)) 1 m (.slice a_p1_0 q_p1_0 c_p1_0) p1_0) (h_p1_2 : SlR (RowE (FE (I1 .i64)) 1) 1 m (.slice a_p1_2 q_p1_2 c_p1_2) p1_2) (h_p2 : SlR (FE (I1 .i64)) 1 m (.slice a_p2 q_p2 c_p2) p2) {r : Bool} (hm : fiduciallaw50_SeamOptimal p0 p1_0 p1_1 p1_2 p2 = some r) :
    Go.E.Spec Try.prog 8 [.slice a_p0 q_p0 c_p0, .agg #[.slice a_p1_0 q_p1_0 c_p1_0, .int .i64 p1_1, .slice a_p1_2 q_p1_2 c_p1_2], .slice a_p2 q_p2 c_p2] m (fun v _ _ => v = .bool r) := by
  refine Spec_enter Try.func8 rfl rfl rfl (fun w0 => ?_)
  refine WK.sub (e' := [(0, .slice a_p0 q_p0 c_p0), (1, .agg #[.slice a_p1_0 q_p1_0 c_p1_0, .int .i64 p1_1, .slice a_p1_2 q_p1_2 c_p1_2]), (2, .slice a_p2 q_p2 c_p2)]) ⟨rfl, rfl, rfl, trivial⟩ ?_
  obtain rfl := SlR.qlen h_p0
  obtain rfl := SlR.qlen h_p1_0
  obtain rfl := SlR.qlen h_p1_2
  obtain rfl := SlR.qlen h_p2
  refine WK.sub (e' := [(0, .slice a_p0 p0.length c_p0), (1, .agg #[.slice a_p1_0 p1_0.length c_p1_0, .int .i64 p1_1, .slice a_p1_2 p1_2.length c_p1_2]), (2, .slice a_p2 p2.length c_p2)]) ⟨rfl, rfl, rfl, trivial⟩ ?_
  unfold fiduciallaw50_SeamOptimal at hm
  refine WK_seq ?_
  refine WK_region ?_
  refine WO_box [.slice a_p1_0 p1_0.length c_p1_0, .int .i64 p1_1, .slice a_p1_2 p1_2.length c_p1_2] rfl rfl trivial rfl rfl rfl (fun b5 => ?_)
  refine WO.cls (C' := St w0 m m [[⟨b5, 25, [.slice a_p1_0 p1_0.length c_p1_0, .int .i64 p1_1, .slice a_p1_2 p1_2.length c_p1_2]⟩]]) (fun _ h => h) ?_
  refine WO_pure tbok 1 [(0, .slice a_p0 p0.length c_p0), (2, .slice a_p2 p2.length c_p2), (4, .pointer (some ⟨b5, 0, none⟩)), (6, .bool false)] rfl ⟨rfl, rfl, rfl, rfl, trivial⟩ ?_
  refine WO_end ?_
  refine WK_seq ?_
  refine WK_seq ?_
  refine WK_region ?_
  obtain ⟨y_1, hc6, hm⟩ := bind_some hm
  refine WO_call0 (.bool y_1) rfl rfl trivial rfl rfl rfl rfl St_closed ⟨11, #[], #[], rfl, callable_11, fun w hw => ⟨_, hw.sat, fiduciallaw50_known_walk hc6⟩⟩ ?_
  refine WO_pure tbok 1 [(0, .slice a_p0 p0.length c_p0), (2, .slice a_p2 p2.length c_p2), (4, .pointer (some ⟨b5, 0, none⟩)), (6, .bool false), (12, .bool (!y_1))] rfl ⟨rfl, rfl, rfl, rfl, rfl, trivial⟩ ?_
  refine WO_end ?_
  refine WK_cond (b := !y_1) rfl (fun hb7 => ?_) (fun hb7 => ?_)
  · have hm := ifT hb7 hm
    refine WK_seq ?_
    refine WK_region ?_
    refine WO_pure tbok 1 [(0, .slice a_p0 p0.length c_p0), (2, .slice a_p2 p2.length c_p2), (4, .pointer (some ⟨b5, 0, none⟩)), (6, .bool false)] rfl ⟨rfl, rfl, rfl, rfl, trivial⟩ ?_
    refine WO_end ?_
    cases hm
    exact WK_ret (ret_out (L := []) (RLc_tmp rfl RLc_nil) (List.nil_sublist _) rfl)
  · have hm := ifF hb7 hm
    refine WK_skip ?_
    refine WK_seq ?_
    refine WK_seq ?_
    obtain ⟨s_2, hx8, hm⟩ := bind_some hm
    refine WK_meet [(0, .slice a_p0 p0.length c_p0), (2, .slice a_p2 p2.length c_p2), (4, .pointer (some ⟨b5, 0, none⟩)), (6, .bool false), (38, .bool s_2)] (St w0 m m [[⟨b5, 25, [.slice a_p1_0 p1_0.length c_p1_0, .int .i64 p1_1, .slice a_p1_2 p1_2.length c_p1_2]⟩]]) ?_ (fun hk9 => ?_)
    · refine WK_cond (b := s_2) rfl (fun hb10 => ?_) (fun hb10 => ?_)
      · have hm := ifT hb10 hm
        refine WK_seq ?_
        refine WK_region ?_
        refine WO_pure tbok 1 [(0, .slice a_p0 p0.length c_p0), (2, .slice a_p2 p2.length c_p2), (4, .pointer (some ⟨b5, 0, none⟩)), (6, .bool true)] rfl ⟨rfl, rfl, rfl, rfl, trivial⟩ ?_
        refine WO_end ?_
        cases hm
        exact WK_ret (ret_out (L := []) (RLc_tmp rfl RLc_nil) (List.nil_sublist _) rfl)
      · have hm := ifF hb10 hm
        refine WK_skip ?_
        refine WK_seq ?_
        refine WK_region ?_
        refine WO_pure tbok 2 [(0, .slice a_p0 p0.length c_p0), (4, .pointer (some ⟨b5, 0, none⟩)), (6, .bool false), (40, .slice a_p0 p0.length c_p0), (41, .slice a_p2 p2.length c_p2)] rfl ⟨rfl, rfl, rfl, rfl, rfl, trivial⟩ ?_
        obtain ⟨⟨y_3, y_4⟩, hc11, hm⟩ := bind_some hm
        refine WO_call0 (.tuple #[.int .i64 y_3, .int .i64 y_4]) rfl rfl trivial rfl rfl rfl rfl St_closed ⟨24, #[], #[], rfl, callable_24, fun w hw => ⟨_, hw.sat, seam_Total_walk h_p0 h_p2 hc11⟩⟩ ?_
        refine WO_pure tbok 5 [(0, .slice a_p0 p0.length c_p0), (4, .pointer (some ⟨b5, 0, none⟩)), (6, .bool false), (7, .int .i64 y_3), (8, .int .i64 y_4)] rfl ⟨rfl, rfl, rfl, rfl, rfl, trivial⟩ ?_
        refine WO_end ?_
        refine WK_seq ?_
        refine WK_region ?_
        refine WO_pure tbok 2 [(4, .pointer (some ⟨b5, 0, none⟩)), (6, .bool false), (7, .int .i64 y_3), (8, .int .i64 y_4), (46, .slice a_p0 p0.length c_p0), (47, .pointer (some ⟨b5, 0, none⟩))] rfl ⟨rfl, rfl, rfl, rfl, rfl, rfl, trivial⟩ ?_
        refine WO_loadB tbok 0 rfl rfl rfl rfl (fun _ h => h) rfl rfl ?_
        obtain ⟨⟨y_5, y_6⟩, hc12, hm⟩ := bind_some hm
        refine WO_call0 (.tuple #[.int .i64 y_5, .int .i64 y_6]) rfl rfl trivial rfl rfl rfl rfl St_closed ⟨24, #[], #[], rfl, callable_24, fun w hw => ⟨_, hw.sat, seam_Total_walk h_p0 h_p1_0 hc12⟩⟩ ?_
        refine WO_pure tbok 5 [(4, .pointer (some ⟨b5, 0, none⟩)), (6, .bool false), (7, .int .i64 y_3), (8, .int .i64 y_4), (9, .int .i64 y_5), (10, .int .i64 y_6)] rfl ⟨rfl, rfl, rfl, rfl, rfl, rfl, trivial⟩ ?_
        refine WO_end ?_
        refine WK_seq ?_
        refine WK_region ?_
        refine WO_pure tbok 3 [(4, .pointer (some ⟨b5, 0, none⟩)), (6, .bool false), (7, .int .i64 y_3), (8, .int .i64 y_4), (9, .int .i64 y_5), (54, .bool (y_6 == 0))] rfl ⟨rfl, rfl, rfl, rfl, rfl, rfl, trivial⟩ ?_
        refine WO_split (d := 54) (b := y_6 == 0) rfl (fun hb13 => ?_) (fun hb13 => ?_)
        · have hm := ifT hb13 hm
          refine WO_pure tbok 2 [(4, .pointer (some ⟨b5, 0, none⟩)), (6, .bool false), (7, .int .i64 y_3), (8, .int .i64 y_4), (54, .bool true), (55, .int .i64 y_5), (56, .pointer (some ⟨b5, 1, none⟩))] rfl ⟨rfl, rfl, rfl, rfl, rfl, rfl, rfl, trivial⟩ ?_
          refine WO_loadB tbok 0 rfl rfl rfl rfl (fun _ h => h) rfl rfl ?_
          refine WO_pure tbok 3 [(4, .pointer (some ⟨b5, 0, none⟩)), (6, .bool false), (7, .int .i64 y_3), (8, .int .i64 y_4), (60, .bool (y_5 == p1_1))] rfl ⟨rfl, rfl, rfl, rfl, rfl, trivial⟩ ?_
          refine WO_split (d := 60) (b := y_5 == p1_1) rfl (fun hb14 => ?_) (fun hb14 => ?_)
          · have hm := ifT hb14 hm
            refine WO_pure tbok 3 [(4, .pointer (some ⟨b5, 0, none⟩)), (6, .bool false), (7, .int .i64 y_3), (60, .bool true), (63, .bool (y_4 != 0))] rfl ⟨rfl, rfl, rfl, rfl, rfl, trivial⟩ ?_
            refine WO_split (d := 63) (b := y_4 != 0) rfl (fun hb15 => ?_) (fun hb15 => ?_)
            · have hm := ifT hb15 hm
              refine WO_pure tbok 7 [(6, .bool true)] rfl ⟨rfl, trivial⟩ ?_
              refine WO_end ?_
              cases hm
              exact WK_ret (ret_out (L := []) (RLc_tmp rfl RLc_nil) (List.nil_sublist _) rfl)
            · have hm := ifF hb15 hm
              refine WO_pure tbok 2 [(6, .bool false), (60, .bool true), (63, .bool false), (64, .int .i64 y_3), (65, .pointer (some ⟨b5, 1, none⟩))] rfl ⟨rfl, rfl, rfl, rfl, rfl, trivial⟩ ?_
              refine WO_loadB tbok 0 rfl rfl rfl rfl (fun _ h => h) rfl rfl ?_
              refine WO_pure tbok 4 [(6, .bool (decide (p1_1 ≤ y_3)))] rfl ⟨rfl, trivial⟩ ?_
              refine WO_end ?_
              cases hm
              exact WK_ret (ret_out (L := []) (RLc_tmp rfl RLc_nil) (List.nil_sublist _) rfl)
          · have hm := ifF hb14 hm
            refine WO_pure tbok 10 [(6, .bool false)] rfl ⟨rfl, trivial⟩ ?_
            refine WO_end ?_
            cases hm
            exact WK_ret (ret_out (L := []) (RLc_tmp rfl RLc_nil) (List.nil_sublist _) rfl)
        · have hm := ifF hb13 hm
          refine WO_pure tbok 16 [(6, .bool false)] rfl ⟨rfl, trivial⟩ ?_
          refine WO_end ?_
          cases hm
          exact WK_ret (ret_out (L := []) (RLc_tmp rfl RLc_nil) (List.nil_sublist _) rfl)
    · refine WK_region ?_
      refine WO_pure tbok 1 [(0, .slice a_p0 p0.length c_p0), (2, .slice a_p2 p2.length c_p2), (4, .pointer (some ⟨b5, 0, none⟩)), (6, .bool false), (13, .slice a_p0 p0.length c_p0)] rfl ⟨rfl, rfl, rfl, rfl, rfl, trivial⟩ ?_
      obtain ⟨y_7, hc16, hx8⟩ := bind_some hx8
      refine WO_call0 (.bool y_7) rfl rfl trivial rfl rfl rfl rfl St_closed ⟨12, #[], #[], rfl, callable_12, fun w hw => ⟨_, hw.sat, fiduciallaw50_Few_walk h_p0 hc16⟩⟩ ?_
      refine WO_pure tbok 2 [(0, .slice a_p0 p0.length c_p0), (2, .slice a_p2 p2.length c_p2), (4, .pointer (some ⟨b5, 0, none⟩)), (6, .bool false), (16, .bool (!y_7))] rfl ⟨rfl, rfl, rfl, rfl, rfl, trivial⟩ ?_
      refine WO_split (d := 16) (b := !y_7) rfl (fun hb17 => ?_) (fun hb17 => ?_)
      · have hx8 := ifT hb17 hx8
        refine WO_pure tbok 2 [(0, .slice a_p0 p0.length c_p0), (2, .slice a_p2 p2.length c_p2), (4, .pointer (some ⟨b5, 0, none⟩)), (6, .bool false), (16, .bool true)] rfl ⟨rfl, rfl, rfl, rfl, rfl, trivial⟩ ?_
        refine WO_skip rfl rfl ?_
        refine WO_pure tbok 16 [(0, .slice a_p0 p0.length c_p0), (2, .slice a_p2 p2.length c_p2), (4, .pointer (some ⟨b5, 0, none⟩)), (6, .bool false), (33, .bool true)] rfl ⟨rfl, rfl, rfl, rfl, rfl, trivial⟩ ?_
        refine WO_skip rfl rfl ?_
        refine WO_pure tbok 2 [(0, .slice a_p0 p0.length c_p0), (2, .slice a_p2 p2.length c_p2), (4, .pointer (some ⟨b5, 0, none⟩)), (6, .bool false), (38, .bool true)] rfl ⟨rfl, rfl, rfl, rfl, rfl, trivial⟩ ?_
        refine WO_end ?_
        cases hx8
        refine WK.sub ?_ (WK.cls (fun _ h => h) hk9)
        exact ⟨rfl, rfl, rfl, rfl, rfl, trivial⟩
      · have hx8 := ifF hb17 hx8
        refine WO_pure tbok 1 [(0, .slice a_p0 p0.length c_p0), (2, .slice a_p2 p2.length c_p2), (4, .pointer (some ⟨b5, 0, none⟩)), (6, .bool false), (16, .bool false), (17, .pointer (some ⟨b5, 2, none⟩))] rfl ⟨rfl, rfl, rfl, rfl, rfl, rfl, trivial⟩ ?_
        refine WO_loadB tbok 0 rfl rfl rfl rfl (fun _ h => h) rfl rfl ?_
        obtain ⟨y_8, hc18, hx8⟩ := bind_some hx8
        refine WO_call0 (.bool y_8) rfl rfl trivial rfl rfl rfl rfl St_closed ⟨12, #[], #[], rfl, callable_12, fun w hw => ⟨_, hw.sat, fiduciallaw50_Few_walk h_p1_2 hc18⟩⟩ ?_
        refine WO_pure tbok 3 [(0, .slice a_p0 p0.length c_p0), (2, .slice a_p2 p2.length c_p2), (4, .pointer (some ⟨b5, 0, none⟩)), (6, .bool false), (22, .bool (!y_8))] rfl ⟨rfl, rfl, rfl, rfl, rfl, trivial⟩ ?_
        refine WO_split (d := 22) (b := !y_8) rfl (fun hb19 => ?_) (fun hb19 => ?_)
        · have hx8 := ifT hb19 hx8
          refine WO_pure tbok 13 [(0, .slice a_p0 p0.length c_p0), (2, .slice a_p2 p2.length c_p2), (4, .pointer (some ⟨b5, 0, none⟩)), (6, .bool false), (33, .bool true)] rfl ⟨rfl, rfl, rfl, rfl, rfl, trivial⟩ ?_
          refine WO_skip rfl rfl ?_
          refine WO_pure tbok 2 [(0, .slice a_p0 p0.length c_p0), (2, .slice a_p2 p2.length c_p2), (4, .pointer (some ⟨b5, 0, none⟩)), (6, .bool false), (38, .bool true)] rfl ⟨rfl, rfl, rfl, rfl, rfl, trivial⟩ ?_
          refine WO_end ?_
          cases hx8
          refine WK.sub ?_ (WK.cls (fun _ h => h) hk9)
          exact ⟨rfl, rfl, rfl, rfl, rfl, trivial⟩
        · have hx8 := ifF hb19 hx8
          refine WO_pure tbok 1 [(0, .slice a_p0 p0.length c_p0), (2, .slice a_p2 p2.length c_p2), (4, .pointer (some ⟨b5, 0, none⟩)), (6, .bool false), (22, .bool false), (23, .pointer (some ⟨b5, 0, none⟩))] rfl ⟨rfl, rfl, rfl, rfl, rfl, rfl, trivial⟩ ?_
          refine WO_loadB tbok 0 rfl rfl rfl rfl (fun _ h => h) rfl rfl ?_
          refine WO_pure tbok 4 [(0, .slice a_p0 p0.length c_p0), (2, .slice a_p2 p2.length c_p2), (4, .pointer (some ⟨b5, 0, none⟩)), (6, .bool false), (28, .bool (decide (20 < (p1_0.length : Int))))] rfl ⟨rfl, rfl, rfl, rfl, rfl, trivial⟩ ?_
          refine WO_split (d := 28) (b := decide (20 < (p1_0.length : Int))) rfl (fun hb20 => ?_) (fun hb20 => ?_)
          · have hx8 := ifT hb20 hx8
            refine WO_pure tbok 7 [(0, .slice a_p0 p0.length c_p0), (2, .slice a_p2 p2.length c_p2), (4, .pointer (some ⟨b5, 0, none⟩)), (6, .bool false), (33, .bool true)] rfl ⟨rfl, rfl, rfl, rfl, rfl, trivial⟩ ?_
            refine WO_skip rfl rfl ?_
            refine WO_pure tbok 2 [(0, .slice a_p0 p0.length c_p0), (2, .slice a_p2 p2.length c_p2), (4, .pointer (some ⟨b5, 0, none⟩)), (6, .bool false), (38, .bool true)] rfl ⟨rfl, rfl, rfl, rfl, rfl, trivial⟩ ?_
            refine WO_end ?_
            cases hx8
            refine WK.sub ?_ (WK.cls (fun _ h => h) hk9)
            exact ⟨rfl, rfl, rfl, rfl, rfl, trivial⟩
          · have hx8 := ifF hb20 hx8
            refine WO_pure tbok 5 [(0, .slice a_p0 p0.length c_p0), (2, .slice a_p2 p2.length c_p2), (4, .pointer (some ⟨b5, 0, none⟩)), (6, .bool false), (33, .bool (decide (20 < (p2.length : Int))))] rfl ⟨rfl, rfl, rfl, rfl, rfl, trivial⟩ ?_
            refine WO_split (d := 33) (b := decide (20 < (p2.length : Int))) rfl (fun hb21 => ?_) (fun hb21 => ?_)
            · have hx8 := ifT hb21 hx8
              refine WO_pure tbok 2 [(0, .slice a_p0 p0.length c_p0), (2, .slice a_p2 p2.length c_p2), (4, .pointer (some ⟨b5, 0, none⟩)), (6, .bool false), (33, .bool true)] rfl ⟨rfl, rfl, rfl, rfl, rfl, trivial⟩ ?_
              refine WO_skip rfl rfl ?_
              refine WO_pure tbok 2 [(0, .slice a_p0 p0.length c_p0), (2, .slice a_p2 p2.length c_p2), (4, .pointer (some ⟨b5, 0, none⟩)), (6, .bool false), (38, .bool true)] rfl ⟨rfl, rfl, rfl, rfl, rfl, trivial⟩ ?_
              refine WO_end ?_
              cases hx8
              refine WK.sub ?_ (WK.cls (fun _ h => h) hk9)
              exact ⟨rfl, rfl, rfl, rfl, rfl, trivial⟩
            · have hx8 := ifF hb21 hx8
              refine WO_pure tbok 1 [(0, .slice a_p0 p0.length c_p0), (2, .slice a_p2 p2.length c_p2), (4, .pointer (some ⟨b5, 0, none⟩)), (6, .bool false), (33, .bool false), (34, .slice a_p0 p0.length c_p0)] rfl ⟨rfl, rfl, rfl, rfl, rfl, rfl, trivial⟩ ?_
              refine WO_loadB tbok 0 rfl rfl rfl rfl (fun _ h => h) rfl rfl ?_
              obtain ⟨y_9, hc22, hx8⟩ := bind_some hx8
              refine WO_call0 (.int .i64 y_9) rfl rfl trivial rfl rfl rfl rfl St_closed ⟨15, #[], #[], rfl, callable_15, fun w hw => ⟨_, hw.sat, seam_Prove_walk h_p0 h_p1_0 h_p1_2 hc22⟩⟩ ?_
              refine WO_pure tbok 2 [(0, .slice a_p0 p0.length c_p0), (2, .slice a_p2 p2.length c_p2), (4, .pointer (some ⟨b5, 0, none⟩)), (6, .bool false), (38, .bool (y_9 != 0))] rfl ⟨rfl, rfl, rfl, rfl, rfl, trivial⟩ ?_
              refine WO_end ?_
              cases hx8
              refine WK.sub ?_ (WK.cls (fun _ h => h) hk9)
              exact ⟨rfl, rfl, rfl, rfl, rfl, trivial⟩
theorem fiducialref13_Check_walk {m : Mu} {p0_0 : Int} {p0_1 : Int} {p0_2 : Int} {p0_3 : List Int} {a_p0_3 : Option Addr} {q_p0_3 c_p0_3 : Nat} (h_p0_3 : SlR (FE (I1 .i64)) 1 m (.slice a_p0_3 q_p0_3 c_p0_3) p0_3) {r : Int} (hm : fiducialref13_Check p0_0 p0_1 p0_2 p0_3 = some r) :
    Go.E.Spec Try.prog 50 [.agg #[.int .i64 p0_0, .int .i64 p0_1, .int .i64 p0_2, .slice a_p0_3 q_p0_3 c_p0_3]] m (fun v _ _ => v = .int .i64 r) := by
  refine Spec_enter Try.func50 rfl rfl rfl (fun w0 => ?_)
  refine WK.sub (e' := [(0, .agg #[.int .i64 p0_0, .int .i64 p0_1, .int .i64 p0_2, .slice a_p0_3 q_p0_3 c_p0_3])]) ⟨rfl, trivial⟩ ?_
  obtain rfl := SlR.qlen h_p0_3
  refine WK.sub (e' := [(0, .agg #[.int .i64 p0_0, .int .i64 p0_1, .int .i64 p0_2, .slice a_p0_3 p0_3.length c_p0_3])]) ⟨rfl, trivial⟩ ?_
  unfold fiducialref13_Check at hm
  refine WK_seq ?_
  refine WK_region ?_
  refine WO_box [.int .i64 p0_0, .int .i64 p0_1, .int .i64 p0_2, .slice a_p0_3 p0_3.length c_p0_3] rfl rfl trivial rfl rfl rfl (fun b2 => ?_)
  refine WO.cls (C' := St w0 m m [[⟨b2, 50, [.int .i64 p0_0, .int .i64 p0_1, .int .i64 p0_2, .slice a_p0_3 p0_3.length c_p0_3]⟩]]) (fun _ h => h) ?_
  refine WO_pure tbok 1 [(1, .pointer (some ⟨b2, 0, none⟩)), (2, .int .i64 0)] rfl ⟨rfl, rfl, trivial⟩ ?_
  refine WO_end ?_
  refine WK_seq ?_
  refine WK_seq ?_
  obtain ⟨s_1, hx3, hm⟩ := bind_some hm
  refine WK_meet [(1, .pointer (some ⟨b2, 0, none⟩)), (2, .int .i64 0), (42, .bool s_1)] (St w0 m m [[⟨b2, 50, [.int .i64 p0_0, .int .i64 p0_1, .int .i64 p0_2, .slice a_p0_3 p0_3.length c_p0_3]⟩]]) ?_ (fun hk4 => ?_)
  · refine WK_cond (b := s_1) rfl (fun hb5 => ?_) (fun hb5 => ?_)
    · have hm := ifT hb5 hm
      refine WK_seq ?_
      refine WK_region ?_
      refine WO_pure tbok 1 [(1, .pointer (some ⟨b2, 0, none⟩)), (2, .int .i64 1)] rfl ⟨rfl, rfl, trivial⟩ ?_
      refine WO_end ?_
      cases hm
      exact WK_ret (ret_out (L := []) (RLc_tmp rfl RLc_nil) (List.nil_sublist _) rfl)
    · have hm := ifF hb5 hm
      refine WK_skip ?_
      refine WK_seq ?_
      refine WK_seq ?_
      refine WK_region ?_
      refine WO_pure tbok 1 [(1, .pointer (some ⟨b2, 0, none⟩)), (2, .int .i64 0), (3, .int .i64 0)] rfl ⟨rfl, rfl, rfl, trivial⟩ ?_
      refine WO_end ?_
      obtain ⟨x6, hx7, hm⟩ := bind_some hm
      refine WK_join (β := Unit × Unit) (fun p => Sum.inr p.1 = x6) (fun p => [(2, .int .i64 0)]) (fun p => St w0 m m [[⟨b2, 50, [.int .i64 p0_0, .int .i64 p0_1, .int .i64 p0_2, .slice a_p0_3 p0_3.length c_p0_3]⟩]]) ?_ (fun hk8 => ?_)
      · rintro ⟨⟨⟩, ⟨⟩⟩ hq14
        subst hq14
        refine WK.sub (e' := [(2, .int .i64 0)]) ⟨rfl, trivial⟩ (WK.cls (C' := St w0 m m [[⟨b2, 50, [.int .i64 p0_0, .int .i64 p0_1, .int .i64 p0_2, .slice a_p0_3 p0_3.length c_p0_3]⟩]]) (fun _ h => h) ?_)
        refine WK_seq ?_
        refine WK_region ?_
        refine WO_pure tbok 1 [(2, .int .i64 0)] rfl ⟨rfl, trivial⟩ ?_
        refine WO_end ?_
        cases hm
        exact WK_ret (ret_out (L := []) (RLc_tmp rfl RLc_nil) (List.nil_sublist _) rfl)
      · refine WK_block ?_
        refine WK_loop (S := Int) (G := Unit) (fun s => fiducialref13_Check_s1 p0_2 p0_3 s) (fun s g => [(1, .pointer (some ⟨b2, 0, none⟩)), (2, .int .i64 0), (3, .int .i64 s)]) (fun s g => St w0 m m [[⟨b2, 50, [.int .i64 p0_0, .int .i64 p0_1, .int .i64 p0_2, .slice a_p0_3 p0_3.length c_p0_3]⟩]]) (fun s g => True) FUEL 0 () x6 hx7 trivial ⟨rfl, rfl, rfl, trivial⟩ (fun _ h => h) ?_
        rintro s_2 ⟨⟩ o10 fl11 hm9 - hn12 hd13
        have hm9 : fiducialref13_Check_s1 p0_2 p0_3 s_2 = some o10 := hm9
        unfold fiducialref13_Check_s1 at hm9
        refine WK.sub (e' := [(1, .pointer (some ⟨b2, 0, none⟩)), (2, .int .i64 0), (3, .int .i64 s_2)]) ⟨rfl, rfl, rfl, trivial⟩ (WK.cls (C' := St w0 m m [[⟨b2, 50, [.int .i64 p0_0, .int .i64 p0_1, .int .i64 p0_2, .slice a_p0_3 p0_3.length c_p0_3]⟩]]) (fun _ h => h) ?_)
        refine WK_seq ?_
        refine WK_seq ?_
        refine WK_region ?_
        refine WO_pure tbok 2 [(1, .pointer (some ⟨b2, 0, none⟩)), (2, .int .i64 0), (3, .int .i64 s_2), (43, .int .i64 s_2), (44, .pointer (some ⟨b2, 3, none⟩))] rfl ⟨rfl, rfl, rfl, rfl, rfl, trivial⟩ ?_
        refine WO_loadB tbok 0 rfl rfl rfl rfl (fun _ h => h) rfl rfl ?_
        refine WO_pure tbok 2 [(1, .pointer (some ⟨b2, 0, none⟩)), (2, .int .i64 0), (3, .int .i64 s_2), (47, .bool (decide (s_2 < (p0_3.length : Int))))] rfl ⟨rfl, rfl, rfl, rfl, trivial⟩ ?_
        refine WO_end ?_
        refine WK_cond (b := decide (s_2 < (p0_3.length : Int))) rfl (fun hb15 => ?_) (fun hb15 => ?_)
        · have hm9 := ifT hb15 hm9
          refine WK_skip ?_
          refine WK_seq ?_
          refine WK_block ?_
          refine WK_seq ?_
          obtain ⟨s_3, hx16, hm9⟩ := bind_some hm9
          refine WK_meet [(1, .pointer (some ⟨b2, 0, none⟩)), (2, .int .i64 0), (3, .int .i64 s_2), (65, .bool s_3)] (St w0 m m [[⟨b2, 50, [.int .i64 p0_0, .int .i64 p0_1, .int .i64 p0_2, .slice a_p0_3 p0_3.length c_p0_3]⟩]]) ?_ (fun hk17 => ?_)
          · refine WK_cond (b := s_3) rfl (fun hb18 => ?_) (fun hb18 => ?_)
            · have hm9 := ifT hb18 hm9
              refine WK_seq ?_
              refine WK_region ?_
              refine WO_pure tbok 1 [(1, .pointer (some ⟨b2, 0, none⟩)), (2, .int .i64 1), (3, .int .i64 s_2)] rfl ⟨rfl, rfl, rfl, trivial⟩ ?_
              refine WO_end ?_
              cases hm9
              have hq := hd13 _ rfl
              subst hq
              have hm : some _ = some _ := hm
              cases hm
              exact WK_ret (ret_out (L := []) (RLc_tmp rfl RLc_nil) (List.nil_sublist _) rfl)
            · have hm9 := ifF hb18 hm9
              refine WK_skip ?_
              refine WK_blk ?_
              refine WK_region ?_
              refine WO_pure tbok 3 [(1, .pointer (some ⟨b2, 0, none⟩)), (2, .int .i64 0), (3, .int .i64 (w64 (s_2 + 1)))] rfl ⟨rfl, rfl, rfl, trivial⟩ ?_
              refine WO_end ?_
              cases hm9
              refine WK.sub ?_ (WK.cls (fun _ h => h) (hn12 _ () rfl trivial))
              exact ⟨rfl, rfl, rfl, trivial⟩
          · refine WK_draw 16 [0, 1, 2, 3, 4, 5, 6, 7, 8, 9, 10, 11, 12, 13, 14, 15] follows_ok (by kernel_rfl) St_closed ?_
            refine WO_pure tbok 1 [(1, .pointer (some ⟨b2, 0, none⟩)), (2, .int .i64 0), (3, .int .i64 s_2), (50, .pointer (some ⟨b2, 3, none⟩))] rfl ⟨rfl, rfl, rfl, rfl, trivial⟩ ?_
            refine WO_loadB tbok 0 rfl rfl rfl rfl (fun _ h => h) rfl rfl ?_
            refine WO_pure tbok 1 [(1, .pointer (some ⟨b2, 0, none⟩)), (2, .int .i64 0), (3, .int .i64 s_2), (51, .slice a_p0_3 p0_3.length c_p0_3), (52, .int .i64 s_2)] rfl ⟨rfl, rfl, rfl, rfl, rfl, trivial⟩ ?_
            obtain ⟨v_4, hy19, hx16⟩ := bind_some hx16
            obtain ⟨hc20, hy19⟩ := ix_some hy19
            refine WO_index tbok rfl rfl rfl rfl rfl rfl rfl rfl (SlR.addr h_p0_3) hc20 ?_
            refine WO_loadE tbok rfl rfl rfl rfl (fun _ h => St.sat h) h_p0_3 hy19 rfl ?_
            refine WO_pure tbok 2 [(1, .pointer (some ⟨b2, 0, none⟩)), (2, .int .i64 0), (3, .int .i64 s_2), (56, .bool (decide (v_4 < 0)))] rfl ⟨rfl, rfl, rfl, rfl, trivial⟩ ?_
            refine WO_split (d := 56) (b := decide (v_4 < 0)) rfl (fun hb21 => ?_) (fun hb21 => ?_)
            · have hx16 := ifT hb21 hx16
              refine WO_pure tbok 9 [(1, .pointer (some ⟨b2, 0, none⟩)), (2, .int .i64 0), (3, .int .i64 s_2), (65, .bool true)] rfl ⟨rfl, rfl, rfl, rfl, trivial⟩ ?_
              refine WO_tail ?_
              refine WO_end ?_
              cases hx16
              refine WK.sub ?_ (WK.cls (fun _ h => h) hk17)
              exact ⟨rfl, rfl, rfl, rfl, trivial⟩
            · have hx16 := ifF hb21 hx16
              refine WO_pure tbok 1 [(1, .pointer (some ⟨b2, 0, none⟩)), (2, .int .i64 0), (3, .int .i64 s_2), (56, .bool false), (57, .pointer (some ⟨b2, 3, none⟩))] rfl ⟨rfl, rfl, rfl, rfl, rfl, trivial⟩ ?_
              refine WO_loadB tbok 0 rfl rfl rfl rfl (fun _ h => h) rfl rfl ?_
              refine WO_pure tbok 1 [(1, .pointer (some ⟨b2, 0, none⟩)), (2, .int .i64 0), (3, .int .i64 s_2), (56, .bool false), (58, .slice a_p0_3 p0_3.length c_p0_3), (59, .int .i64 s_2)] rfl ⟨rfl, rfl, rfl, rfl, rfl, rfl, trivial⟩ ?_
              obtain ⟨v_5, hy22, hx16⟩ := bind_some hx16
              obtain ⟨hc23, hy22⟩ := ix_some hy22
              refine WO_index tbok rfl rfl rfl rfl rfl rfl rfl rfl (SlR.addr h_p0_3) hc23 ?_
              refine WO_loadE tbok rfl rfl rfl rfl (fun _ h => St.sat h) h_p0_3 hy22 rfl ?_
              refine WO_pure tbok 1 [(1, .pointer (some ⟨b2, 0, none⟩)), (2, .int .i64 0), (3, .int .i64 s_2), (56, .bool false), (61, .int .i64 v_5), (62, .pointer (some ⟨b2, 2, none⟩))] rfl ⟨rfl, rfl, rfl, rfl, rfl, rfl, trivial⟩ ?_
              refine WO_loadB tbok 0 rfl rfl rfl rfl (fun _ h => h) rfl rfl ?_
              refine WO_pure tbok 2 [(1, .pointer (some ⟨b2, 0, none⟩)), (2, .int .i64 0), (3, .int .i64 s_2), (65, .bool (decide (p0_2 < v_5)))] rfl ⟨rfl, rfl, rfl, rfl, trivial⟩ ?_
              refine WO_tail ?_
              refine WO_end ?_
              cases hx16
              refine WK.sub ?_ (WK.cls (fun _ h => h) hk17)
              exact ⟨rfl, rfl, rfl, rfl, trivial⟩
        · have hm9 := ifF hb15 hm9
          refine WK_exit rfl ?_
          cases hm9
          refine WK.sub ?_ (WK.cls (fun _ h => h) (hk8 ((), ()) (hd13 _ rfl)))
          exact ⟨rfl, trivial⟩
  · refine WK_region ?_
    refine WO_pure tbok 1 [(1, .pointer (some ⟨b2, 0, none⟩)), (2, .int .i64 0), (4, .pointer (some ⟨b2, 0, none⟩))] rfl ⟨rfl, rfl, rfl, trivial⟩ ?_
    refine WO_loadB tbok 0 rfl rfl rfl rfl (fun _ h => h) rfl rfl ?_
    refine WO_pure tbok 2 [(1, .pointer (some ⟨b2, 0, none⟩)), (2, .int .i64 0), (7, .bool (decide (p0_0 < 1)))] rfl ⟨rfl, rfl, rfl, trivial⟩ ?_
    refine WO_split (d := 7) (b := decide (p0_0 < 1)) rfl (fun hb24 => ?_) (fun hb24 => ?_)
    · have hx3 := ifT hb24 hx3
      refine WO_pure tbok 35 [(1, .pointer (some ⟨b2, 0, none⟩)), (2, .int .i64 0), (42, .bool true)] rfl ⟨rfl, rfl, rfl, trivial⟩ ?_
      refine WO_end ?_
      cases hx3
      refine WK.sub ?_ (WK.cls (fun _ h => h) hk4)
      exact ⟨rfl, rfl, rfl, trivial⟩
    · have hx3 := ifF hb24 hx3
      refine WO_pure tbok 1 [(1, .pointer (some ⟨b2, 0, none⟩)), (2, .int .i64 0), (7, .bool false), (8, .pointer (some ⟨b2, 0, none⟩))] rfl ⟨rfl, rfl, rfl, rfl, trivial⟩ ?_
      refine WO_loadB tbok 0 rfl rfl rfl rfl (fun _ h => h) rfl rfl ?_
      refine WO_pure tbok 3 [(1, .pointer (some ⟨b2, 0, none⟩)), (2, .int .i64 0), (12, .bool (decide (64 < p0_0)))] rfl ⟨rfl, rfl, rfl, trivial⟩ ?_
      refine WO_split (d := 12) (b := decide (64 < p0_0)) rfl (fun hb25 => ?_) (fun hb25 => ?_)
      · have hx3 := ifT hb25 hx3
        refine WO_pure tbok 30 [(1, .pointer (some ⟨b2, 0, none⟩)), (2, .int .i64 0), (42, .bool true)] rfl ⟨rfl, rfl, rfl, trivial⟩ ?_
        refine WO_end ?_
        cases hx3
        refine WK.sub ?_ (WK.cls (fun _ h => h) hk4)
        exact ⟨rfl, rfl, rfl, trivial⟩
      · have hx3 := ifF hb25 hx3
        refine WO_pure tbok 1 [(1, .pointer (some ⟨b2, 0, none⟩)), (2, .int .i64 0), (12, .bool false), (13, .pointer (some ⟨b2, 1, none⟩))] rfl ⟨rfl, rfl, rfl, rfl, trivial⟩ ?_
        refine WO_loadB tbok 0 rfl rfl rfl rfl (fun _ h => h) rfl rfl ?_
        refine WO_pure tbok 3 [(1, .pointer (some ⟨b2, 0, none⟩)), (2, .int .i64 0), (17, .bool (decide (p0_1 < 1)))] rfl ⟨rfl, rfl, rfl, trivial⟩ ?_
        refine WO_split (d := 17) (b := decide (p0_1 < 1)) rfl (fun hb26 => ?_) (fun hb26 => ?_)
        · have hx3 := ifT hb26 hx3
          refine WO_pure tbok 25 [(1, .pointer (some ⟨b2, 0, none⟩)), (2, .int .i64 0), (42, .bool true)] rfl ⟨rfl, rfl, rfl, trivial⟩ ?_
          refine WO_end ?_
          cases hx3
          refine WK.sub ?_ (WK.cls (fun _ h => h) hk4)
          exact ⟨rfl, rfl, rfl, trivial⟩
        · have hx3 := ifF hb26 hx3
          refine WO_pure tbok 1 [(1, .pointer (some ⟨b2, 0, none⟩)), (2, .int .i64 0), (17, .bool false), (18, .pointer (some ⟨b2, 1, none⟩))] rfl ⟨rfl, rfl, rfl, rfl, trivial⟩ ?_
          refine WO_loadB tbok 0 rfl rfl rfl rfl (fun _ h => h) rfl rfl ?_
          refine WO_pure tbok 3 [(1, .pointer (some ⟨b2, 0, none⟩)), (2, .int .i64 0), (22, .bool (decide (64 < p0_1)))] rfl ⟨rfl, rfl, rfl, trivial⟩ ?_
          refine WO_split (d := 22) (b := decide (64 < p0_1)) rfl (fun hb27 => ?_) (fun hb27 => ?_)
          · have hx3 := ifT hb27 hx3
            refine WO_pure tbok 20 [(1, .pointer (some ⟨b2, 0, none⟩)), (2, .int .i64 0), (42, .bool true)] rfl ⟨rfl, rfl, rfl, trivial⟩ ?_
            refine WO_end ?_
            cases hx3
            refine WK.sub ?_ (WK.cls (fun _ h => h) hk4)
            exact ⟨rfl, rfl, rfl, trivial⟩
          · have hx3 := ifF hb27 hx3
            refine WO_pure tbok 1 [(1, .pointer (some ⟨b2, 0, none⟩)), (2, .int .i64 0), (22, .bool false), (23, .pointer (some ⟨b2, 2, none⟩))] rfl ⟨rfl, rfl, rfl, rfl, trivial⟩ ?_
            refine WO_loadB tbok 0 rfl rfl rfl rfl (fun _ h => h) rfl rfl ?_
            refine WO_pure tbok 3 [(1, .pointer (some ⟨b2, 0, none⟩)), (2, .int .i64 0), (27, .bool (decide (p0_2 < 1)))] rfl ⟨rfl, rfl, rfl, trivial⟩ ?_
            refine WO_split (d := 27) (b := decide (p0_2 < 1)) rfl (fun hb28 => ?_) (fun hb28 => ?_)
            · have hx3 := ifT hb28 hx3
              refine WO_pure tbok 15 [(1, .pointer (some ⟨b2, 0, none⟩)), (2, .int .i64 0), (42, .bool true)] rfl ⟨rfl, rfl, rfl, trivial⟩ ?_
              refine WO_end ?_
              cases hx3
              refine WK.sub ?_ (WK.cls (fun _ h => h) hk4)
              exact ⟨rfl, rfl, rfl, trivial⟩
            · have hx3 := ifF hb28 hx3
              refine WO_pure tbok 1 [(1, .pointer (some ⟨b2, 0, none⟩)), (2, .int .i64 0), (27, .bool false), (28, .pointer (some ⟨b2, 2, none⟩))] rfl ⟨rfl, rfl, rfl, rfl, trivial⟩ ?_
              refine WO_loadB tbok 0 rfl rfl rfl rfl (fun _ h => h) rfl rfl ?_
              refine WO_pure tbok 3 [(1, .pointer (some ⟨b2, 0, none⟩)), (2, .int .i64 0), (32, .bool (decide (65535 < p0_2)))] rfl ⟨rfl, rfl, rfl, trivial⟩ ?_
              refine WO_split (d := 32) (b := decide (65535 < p0_2)) rfl (fun hb29 => ?_) (fun hb29 => ?_)
              · have hx3 := ifT hb29 hx3
                refine WO_pure tbok 10 [(1, .pointer (some ⟨b2, 0, none⟩)), (2, .int .i64 0), (42, .bool true)] rfl ⟨rfl, rfl, rfl, trivial⟩ ?_
                refine WO_end ?_
                cases hx3
                refine WK.sub ?_ (WK.cls (fun _ h => h) hk4)
                exact ⟨rfl, rfl, rfl, trivial⟩
              · have hx3 := ifF hb29 hx3
                refine WO_pure tbok 1 [(1, .pointer (some ⟨b2, 0, none⟩)), (2, .int .i64 0), (32, .bool false), (33, .pointer (some ⟨b2, 3, none⟩))] rfl ⟨rfl, rfl, rfl, rfl, trivial⟩ ?_
                refine WO_loadB tbok 0 rfl rfl rfl rfl (fun _ h => h) rfl rfl ?_
                refine WO_pure tbok 2 [(1, .pointer (some ⟨b2, 0, none⟩)), (2, .int .i64 0), (32, .bool false), (35, .int .i64 (p0_3.length : Int)), (36, .pointer (some ⟨b2, 0, none⟩))] rfl ⟨rfl, rfl, rfl, rfl, rfl, trivial⟩ ?_
                refine WO_loadB tbok 0 rfl rfl rfl rfl (fun _ h => h) rfl rfl ?_
                refine WO_pure tbok 1 [(1, .pointer (some ⟨b2, 0, none⟩)), (2, .int .i64 0), (32, .bool false), (35, .int .i64 (p0_3.length : Int)), (37, .int .i64 p0_0), (38, .pointer (some ⟨b2, 1, none⟩))] rfl ⟨rfl, rfl, rfl, rfl, rfl, rfl, trivial⟩ ?_
                refine WO_loadB tbok 0 rfl rfl rfl rfl (fun _ h => h) rfl rfl ?_
                refine WO_pure tbok 3 [(1, .pointer (some ⟨b2, 0, none⟩)), (2, .int .i64 0), (42, .bool ((p0_3.length : Int) != (w64 (p0_0 * p0_1))))] rfl ⟨rfl, rfl, rfl, trivial⟩ ?_
                refine WO_end ?_
                cases hx3
                refine WK.sub ?_ (WK.cls (fun _ h => h) hk4)
                exact ⟨rfl, rfl, rfl, trivial⟩
theorem fiduciallaw50_small_walk {m : Mu} {p0_0 : Int} {p0_1 : Int} {p0_2 : Int} {p0_3 : List Int} {a_p0_3 : Option Addr} {q_p0_3 c_p0_3 : Nat} (h_p0_3 : SlR (FE (I1 .i64)) 1 m (.slice a_p0_3 q_p0_3 c_p0_3) p0_3) {r : Bool} (hm : fiduciallaw50_small p0_0 p0_1 p0_2 p0_3 = some r) :
    Go.E.Spec Try.prog 28 [.agg #[.int .i64 p0_0, .int .i64 p0_1, .int .i64 p0_2, .slice a_p0_3 q_p0_3 c_p0_3]] m (fun v _ _ => v = .bool r) := by
  refine Spec_enter Try.func28 rfl rfl rfl (fun w0 => ?_)
  refine WK.sub (e' := [(0, .agg #[.int .i64 p0_0, .int .i64 p0_1, .int .i64 p0_2, .slice a_p0_3 q_p0_3 c_p0_3])]) ⟨rfl, trivial⟩ ?_
  obtain rfl := SlR.qlen h_p0_3
  refine WK.sub (e' := [(0, .agg #[.int .i64 p0_0, .int .i64 p0_1, .int .i64 p0_2, .slice a_p0_3 p0_3.length c_p0_3])]) ⟨rfl, trivial⟩ ?_
  unfold fiduciallaw50_small at hm
  refine WK_seq ?_
  refine WK_region ?_
  refine WO_box [.int .i64 p0_0, .int .i64 p0_1, .int .i64 p0_2, .slice a_p0_3 p0_3.length c_p0_3] rfl rfl trivial rfl rfl rfl (fun b2 => ?_)
  refine WO.cls (C' := St w0 m m [[⟨b2, 50, [.int .i64 p0_0, .int .i64 p0_1, .int .i64 p0_2, .slice a_p0_3 p0_3.length c_p0_3]⟩]]) (fun _ h => h) ?_
  refine WO_pure tbok 1 [(1, .pointer (some ⟨b2, 0, none⟩)), (2, .bool false)] rfl ⟨rfl, rfl, trivial⟩ ?_
  refine WO_end ?_
  refine WK_seq ?_
  refine WK_region ?_
  refine WO_pure tbok 1 [(1, .pointer (some ⟨b2, 0, none⟩)), (2, .bool false), (3, .pointer (some ⟨b2, 3, none⟩))] rfl ⟨rfl, rfl, rfl, trivial⟩ ?_
  refine WO_loadB tbok 0 rfl rfl rfl rfl (fun _ h => h) rfl rfl ?_
  refine WO_pure tbok 3 [(1, .pointer (some ⟨b2, 0, none⟩)), (2, .bool false), (7, .bool (decide ((p0_3.length : Int) ≤ 60)))] rfl ⟨rfl, rfl, rfl, trivial⟩ ?_
  refine WO_split (d := 7) (b := decide ((p0_3.length : Int) ≤ 60)) rfl (fun hb3 => ?_) (fun hb3 => ?_)
  · have hm := ifT hb3 hm
    refine WO_loadB tbok 0 rfl rfl rfl rfl (fun _ h => h) rfl rfl ?_
    obtain ⟨y_1, hc4, hm⟩ := bind_some hm
    refine WO_call0 (.int .i64 y_1) rfl rfl trivial rfl rfl rfl rfl St_closed ⟨50, #[], #[], rfl, callable_50, fun w hw => ⟨_, hw.sat, fiducialref13_Check_walk h_p0_3 hc4⟩⟩ ?_
    refine WO_pure tbok 2 [(1, .pointer (some ⟨b2, 0, none⟩)), (2, .bool false), (7, .bool true), (11, .bool (y_1 != 0))] rfl ⟨rfl, rfl, rfl, rfl, trivial⟩ ?_
    refine WO_split (d := 11) (b := y_1 != 0) rfl (fun hb5 => ?_) (fun hb5 => ?_)
    · have hm := ifT hb5 hm
      refine WO_pure tbok 11 [(2, .bool true)] rfl ⟨rfl, trivial⟩ ?_
      refine WO_end ?_
      cases hm
      exact WK_ret (ret_out (L := []) (RLc_tmp rfl RLc_nil) (List.nil_sublist _) rfl)
    · have hm := ifF hb5 hm
      refine WO_pure tbok 1 [(1, .pointer (some ⟨b2, 0, none⟩)), (2, .bool false), (7, .bool true), (11, .bool false), (12, .pointer (some ⟨b2, 0, none⟩))] rfl ⟨rfl, rfl, rfl, rfl, rfl, trivial⟩ ?_
      refine WO_loadB tbok 0 rfl rfl rfl rfl (fun _ h => h) rfl rfl ?_
      refine WO_pure tbok 2 [(1, .pointer (some ⟨b2, 0, none⟩)), (2, .bool false), (7, .bool true), (11, .bool false), (15, .bool (decide (p0_0 ≤ 7)))] rfl ⟨rfl, rfl, rfl, rfl, rfl, trivial⟩ ?_
      refine WO_split (d := 15) (b := decide (p0_0 ≤ 7)) rfl (fun hb6 => ?_) (fun hb6 => ?_)
      · have hm := ifT hb6 hm
        refine WO_pure tbok 1 [(2, .bool false), (7, .bool true), (11, .bool false), (15, .bool true), (16, .pointer (some ⟨b2, 1, none⟩))] rfl ⟨rfl, rfl, rfl, rfl, rfl, trivial⟩ ?_
        refine WO_loadB tbok 0 rfl rfl rfl rfl (fun _ h => h) rfl rfl ?_
        refine WO_pure tbok 5 [(2, .bool (decide (p0_1 ≤ 7)))] rfl ⟨rfl, trivial⟩ ?_
        refine WO_end ?_
        cases hm
        exact WK_ret (ret_out (L := []) (RLc_tmp rfl RLc_nil) (List.nil_sublist _) rfl)
      · have hm := ifF hb6 hm
        refine WO_pure tbok 7 [(2, .bool false)] rfl ⟨rfl, trivial⟩ ?_
        refine WO_end ?_
        cases hm
        exact WK_ret (ret_out (L := []) (RLc_tmp rfl RLc_nil) (List.nil_sublist _) rfl)
  · have hm := ifF hb3 hm
    refine WO_pure tbok 1 [(1, .pointer (some ⟨b2, 0, none⟩)), (2, .bool false), (7, .bool false)] rfl ⟨rfl, rfl, rfl, trivial⟩ ?_
    refine WO_skip rfl rfl ?_
    refine WO_pure tbok 13 [(2, .bool false)] rfl ⟨rfl, trivial⟩ ?_
    refine WO_end ?_
    cases hm
    exact WK_ret (ret_out (L := []) (RLc_tmp rfl RLc_nil) (List.nil_sublist _) rfl)
def seam_Costs_Q (r : List (List Int) × Int) : Value → Mu → List Ent → Prop := fun v m L => ∃ (a0 : Option Addr) (q0 c0 : Nat), v = .tuple #[.slice a0 q0 c0, .int .i64 r.2] ∧ SlR (RowE (FE (I1 .i64)) 1) 1 m (.slice a0 q0 c0) r.1
theorem seam_Costs_walk {m : Mu} {p0_0 : Int} {p0_1 : Int} {p0_2 : Int} {p0_3 : List Int} {p1_0 : Int} {p1_1 : Int} {p1_2 : Int} {p1_3 : List Int} {a_p0_3 : Option Addr} {q_p0_3 c_p0_3 : Nat} {a_p1_3 : Option Addr} {q_p1_3 c_p1_3 : Nat} (h_p0_3 : SlR (FE (I1 .i64)) 1 m (.slice a_p0_3 q_p0_3 c_p0_3) p0_3) (h_p1_3 : SlR (FE (I1 .i64)) 1 m (.slice a_p1_3 q_p1_3 c_p1_3) p1_3) {r : List (List Int) × Int} (hm : seam_Costs p0_0 p0_1 p0_2 p0_3 p1_0 p1_1 p1_2 p1_3 = some r) :
    Go.E.Spec Try.prog 29 [.agg #[.int .i64 p0_0, .int .i64 p0_1, .int .i64 p0_2, .slice a_p0_3 q_p0_3 c_p0_3], .agg #[.int .i64 p1_0, .int .i64 p1_1, .int .i64 p1_2, .slice a_p1_3 q_p1_3 c_p1_3]] m (seam_Costs_Q r) := by
  refine Spec_enter Try.func29 rfl rfl rfl (fun w0 => ?_)
  refine WK.sub (e' := [(0, .agg #[.int .i64 p0_0, .int .i64 p0_1, .int .i64 p0_2, .slice a_p0_3 q_p0_3 c_p0_3]), (1, .agg #[.int .i64 p1_0, .int .i64 p1_1, .int .i64 p1_2, .slice a_p1_3 q_p1_3 c_p1_3])]) ⟨rfl, rfl, trivial⟩ ?_
  obtain rfl := SlR.qlen h_p0_3
  obtain rfl := SlR.qlen h_p1_3
  refine WK.sub (e' := [(0, .agg #[.int .i64 p0_0, .int .i64 p0_1, .int .i64 p0_2, .slice a_p0_3 p0_3.length c_p0_3]), (1, .agg #[.int .i64 p1_0, .int .i64 p1_1, .int .i64 p1_2, .slice a_p1_3 p1_3.length c_p1_3])]) ⟨rfl, rfl, trivial⟩ ?_
  unfold seam_Costs at hm
  refine WK_seq ?_
  refine WK_region ?_
  refine WO_box [.int .i64 p0_0, .int .i64 p0_1, .int .i64 p0_2, .slice a_p0_3 p0_3.length c_p0_3] rfl rfl trivial rfl rfl rfl (fun b3 => ?_)
  refine WO.cls (C' := St w0 m m [[⟨b3, 50, [.int .i64 p0_0, .int .i64 p0_1, .int .i64 p0_2, .slice a_p0_3 p0_3.length c_p0_3]⟩]]) (fun _ h => h) ?_
  refine WO_box [.int .i64 p1_0, .int .i64 p1_1, .int .i64 p1_2, .slice a_p1_3 p1_3.length c_p1_3] rfl rfl trivial rfl rfl rfl (fun b4 => ?_)
  refine WO.cls (C' := St w0 m m [[⟨b3, 50, [.int .i64 p0_0, .int .i64 p0_1, .int .i64 p0_2, .slice a_p0_3 p0_3.length c_p0_3]⟩], [⟨b4, 50, [.int .i64 p1_0, .int .i64 p1_1, .int .i64 p1_2, .slice a_p1_3 p1_3.length c_p1_3]⟩]]) (fun _ h => h) ?_
  refine WO_pure tbok 2 [(2, .pointer (some ⟨b3, 0, none⟩)), (3, .pointer (some ⟨b4, 0, none⟩)), (4, .slice none 0 0), (5, .int .i64 0)] rfl ⟨rfl, rfl, rfl, rfl, trivial⟩ ?_
  refine WO_end ?_
  refine WK_seq ?_
  refine WK_seq ?_
  refine WK_region ?_
  refine WO_loadB tbok 0 rfl rfl rfl rfl (fun _ h => h) rfl rfl ?_
  refine WO_loadB tbok 1 rfl rfl rfl rfl (fun _ h => h) rfl rfl ?_
  obtain ⟨y_1, hc5, hm⟩ := bind_some hm
  refine WO_call0 (.int .i64 y_1) rfl rfl trivial rfl rfl rfl rfl St_closed ⟨51, #[], #[], rfl, callable_51, fun w hw => ⟨_, hw.sat, seam_matched_walk h_p0_3 h_p1_3 hc5⟩⟩ ?_
  refine WO_pure tbok 1 [(2, .pointer (some ⟨b3, 0, none⟩)), (3, .pointer (some ⟨b4, 0, none⟩)), (4, .slice none 0 0), (5, .int .i64 0), (6, .int .i64 y_1)] rfl ⟨rfl, rfl, rfl, rfl, rfl, trivial⟩ ?_
  refine WO_end ?_
  refine WK_seq ?_
  refine WK_region ?_
  refine WO_pure tbok 2 [(2, .pointer (some ⟨b3, 0, none⟩)), (3, .pointer (some ⟨b4, 0, none⟩)), (4, .slice none 0 0), (5, .int .i64 0), (6, .int .i64 y_1), (15, .bool (y_1 != 0))] rfl ⟨rfl, rfl, rfl, rfl, rfl, rfl, trivial⟩ ?_
  refine WO_end ?_
  refine WK_cond (b := y_1 != 0) rfl (fun hb6 => ?_) (fun hb6 => ?_)
  · have hm := ifT hb6 hm
    refine WK_seq ?_
    refine WK_region ?_
    refine WO_pure tbok 3 [(2, .pointer (some ⟨b3, 0, none⟩)), (3, .pointer (some ⟨b4, 0, none⟩)), (4, .slice none 0 0), (5, .int .i64 y_1)] rfl ⟨rfl, rfl, rfl, rfl, trivial⟩ ?_
    refine WO_end ?_
    cases hm
    exact WK_ret (ret_out (L := []) (RLc_tmp rfl (RLc_tmp rfl RLc_nil)) (List.nil_sublist _) ⟨none, 0, 0, rfl, SlR_nil⟩)
  · have hm := ifF hb6 hm
    refine WK_skip ?_
    refine WK_seq ?_
    refine WK_region ?_
    refine WO_pure tbok 1 [(2, .pointer (some ⟨b3, 0, none⟩)), (3, .pointer (some ⟨b4, 0, none⟩)), (4, .slice none 0 0), (5, .int .i64 0), (17, .pointer (some ⟨b3, 1, none⟩))] rfl ⟨rfl, rfl, rfl, rfl, rfl, trivial⟩ ?_
    refine WO_loadB tbok 0 rfl rfl rfl rfl (fun _ h => h) rfl rfl ?_
    obtain ⟨hc7, hm⟩ := chk_some hm
    refine WO_makeT (E := (I1 .i64)) (k := 1) (T0 := 23) (T1 := 3) tbok rfl rfl trivial rfl rfl rfl rfl rfl rfl rfl rfl rfl rfl (mk_ok (by decide) hc7) (fun b8 c9 L10 hL10 => ?_)
    refine WO.cls (C' := St w0 m m [[⟨b3, 50, [.int .i64 p0_0, .int .i64 p0_1, .int .i64 p0_2, .slice a_p0_3 p0_3.length c_p0_3]⟩], [⟨b4, 50, [.int .i64 p1_0, .int .i64 p1_1, .int .i64 p1_2, .slice a_p1_3 p1_3.length c_p1_3]⟩], L10]) (fun _ h => h) ?_
    refine WO_pure tbok 1 [(2, .pointer (some ⟨b3, 0, none⟩)), (3, .pointer (some ⟨b4, 0, none⟩)), (4, .slice none 0 0), (5, .int .i64 0), (7, .slice (some ⟨b8, 0, none⟩) ((List.replicate (p0_1 : Int).toNat ([] : List Int)).length) c9)] rfl ⟨rfl, rfl, rfl, rfl, rfl, trivial⟩ ?_
    refine WO_end ?_
    refine WK_seq ?_
    refine WK_seq ?_
    refine WK_region ?_
    refine WO_pure tbok 3 [(2, .pointer (some ⟨b3, 0, none⟩)), (3, .pointer (some ⟨b4, 0, none⟩)), (4, .slice none 0 0), (5, .int .i64 0), (7, .slice (some ⟨b8, 0, none⟩) ((List.replicate (p0_1 : Int).toNat ([] : List Int)).length) c9), (21, .int .i64 ((List.replicate (p0_1 : Int).toNat ([] : List Int)).length : Int)), (22, .int .i64 0)] rfl ⟨rfl, rfl, rfl, rfl, rfl, rfl, rfl, trivial⟩ ?_
    refine WO_end ?_
    obtain ⟨x18, hx19, hm⟩ := bind_some hm
    refine WK_join (β := (List (List Int)) × (List Value × List Ent)) (fun p => p.1 = x18 ∧ OwnT 23 3 1 (I1 .i64) (.slice (some ⟨b8, 0, none⟩) ((List.replicate (p0_1 : Int).toNat ([] : List Int)).length) c9) p.2.1 p.1 p.2.2) (fun p => [(4, .slice none 0 0), (5, .int .i64 0), (7, .slice (some ⟨b8, 0, none⟩) ((List.replicate (p0_1 : Int).toNat ([] : List Int)).length) c9)]) (fun p => St w0 m m [[⟨b3, 50, [.int .i64 p0_0, .int .i64 p0_1, .int .i64 p0_2, .slice a_p0_3 p0_3.length c_p0_3]⟩], [⟨b4, 50, [.int .i64 p1_0, .int .i64 p1_1, .int .i64 p1_2, .slice a_p1_3 p1_3.length c_p1_3]⟩], p.2.2]) ?_ (fun hk20 => ?_)
    · rintro ⟨l_4, ⟨vs17, L16⟩⟩ ⟨hq26, hL16⟩
      subst hq26
      refine WK.sub (e' := [(4, .slice none 0 0), (5, .int .i64 0), (7, .slice (some ⟨b8, 0, none⟩) ((List.replicate (p0_1 : Int).toNat ([] : List Int)).length) c9)]) ⟨rfl, rfl, rfl, trivial⟩ (WK.cls (C' := St w0 m m [[⟨b3, 50, [.int .i64 p0_0, .int .i64 p0_1, .int .i64 p0_2, .slice a_p0_3 p0_3.length c_p0_3]⟩], [⟨b4, 50, [.int .i64 p1_0, .int .i64 p1_1, .int .i64 p1_2, .slice a_p1_3 p1_3.length c_p1_3]⟩], L16]) (fun _ h => h) ?_)
      refine WK_seq ?_
      refine WK_region ?_
      refine WO_pure tbok 3 [(4, .slice (some ⟨b8, 0, none⟩) ((List.replicate (p0_1 : Int).toNat ([] : List Int)).length) c9), (5, .int .i64 0)] rfl ⟨rfl, rfl, trivial⟩ ?_
      refine WO_end ?_
      cases hm
      refine WK_freeze 2 rfl (fun m27 hle28 hmm29 => ?_)
      refine WK.cls (C' := St w0 m m27 [[⟨b3, 50, [.int .i64 p0_0, .int .i64 p0_1, .int .i64 p0_2, .slice a_p0_3 p0_3.length c_p0_3]⟩], [⟨b4, 50, [.int .i64 p1_0, .int .i64 p1_1, .int .i64 p1_2, .slice a_p1_3 p1_3.length c_p1_3]⟩], []]) (fun _ h => h) ?_
      exact WK_ret (ret_out (L := []) (RLc_tmp rfl (RLc_tmp rfl RLc_nil)) (List.nil_sublist _) ⟨(some ⟨b8, 0, none⟩), ((List.replicate (p0_1 : Int).toNat ([] : List Int)).length), c9, rfl, (OwnT.rd (E := (I1 .i64)) (k := 1) (fun _ => rfl) hL16 hmm29)⟩)
    · refine WK_block ?_
      refine WK_loop (S := List (List Int) × Int) (G := List Value × List Ent) (fun s => seam_Costs_s1 p0_0 p0_1 p0_3 p1_3 s.1 s.2) (fun s g => [(2, .pointer (some ⟨b3, 0, none⟩)), (3, .pointer (some ⟨b4, 0, none⟩)), (4, .slice none 0 0), (5, .int .i64 0), (7, .slice (some ⟨b8, 0, none⟩) ((List.replicate (p0_1 : Int).toNat ([] : List Int)).length) c9), (21, .int .i64 ((List.replicate (p0_1 : Int).toNat ([] : List Int)).length : Int)), (22, .int .i64 s.2)]) (fun s g => St w0 m m [[⟨b3, 50, [.int .i64 p0_0, .int .i64 p0_1, .int .i64 p0_2, .slice a_p0_3 p0_3.length c_p0_3]⟩], [⟨b4, 50, [.int .i64 p1_0, .int .i64 p1_1, .int .i64 p1_2, .slice a_p1_3 p1_3.length c_p1_3]⟩], g.2]) (fun s g => OwnT 23 3 1 (I1 .i64) (.slice (some ⟨b8, 0, none⟩) ((List.replicate (p0_1 : Int).toNat ([] : List Int)).length) c9) g.1 s.1 g.2) FUEL ((List.replicate (p0_1 : Int).toNat ([] : List Int)), 0) ((List.replicate (p0_1 : Int).toNat (Value.slice none 0 0)), L10) x18 hx19 hL10 ⟨rfl, rfl, rfl, rfl, rfl, rfl, rfl, trivial⟩ (fun _ h => h) ?_
      rintro ⟨l_2, s_3⟩ ⟨vs14, L13⟩ o22 fl23 hm21 hL13 hn24 hd25
      have hm21 : seam_Costs_s1 p0_0 p0_1 p0_3 p1_3 l_2 s_3 = some o22 := hm21
      unfold seam_Costs_s1 at hm21
      refine WK.sub (e' := [(2, .pointer (some ⟨b3, 0, none⟩)), (3, .pointer (some ⟨b4, 0, none⟩)), (4, .slice none 0 0), (5, .int .i64 0), (7, .slice (some ⟨b8, 0, none⟩) ((List.replicate (p0_1 : Int).toNat ([] : List Int)).length) c9), (21, .int .i64 ((List.replicate (p0_1 : Int).toNat ([] : List Int)).length : Int)), (22, .int .i64 s_3)]) ⟨rfl, rfl, rfl, rfl, rfl, rfl, rfl, trivial⟩ (WK.cls (C' := St w0 m m [[⟨b3, 50, [.int .i64 p0_0, .int .i64 p0_1, .int .i64 p0_2, .slice a_p0_3 p0_3.length c_p0_3]⟩], [⟨b4, 50, [.int .i64 p1_0, .int .i64 p1_1, .int .i64 p1_2, .slice a_p1_3 p1_3.length c_p1_3]⟩], L13]) (fun _ h => h) ?_)
      refine WK_seq ?_
      refine WK_region ?_
      refine WO_pure tbok 1 [(2, .pointer (some ⟨b3, 0, none⟩)), (3, .pointer (some ⟨b4, 0, none⟩)), (4, .slice none 0 0), (5, .int .i64 0), (7, .slice (some ⟨b8, 0, none⟩) ((List.replicate (p0_1 : Int).toNat ([] : List Int)).length) c9), (21, .int .i64 ((List.replicate (p0_1 : Int).toNat ([] : List Int)).length : Int)), (22, .int .i64 s_3), (23, .bool (decide (s_3 < ((List.replicate (p0_1 : Int).toNat ([] : List Int)).length : Int))))] rfl ⟨rfl, rfl, rfl, rfl, rfl, rfl, rfl, rfl, trivial⟩ ?_
      refine WO_end ?_
      refine WK_seq ?_
      refine WK_cond (b := decide (s_3 < ((List.replicate (p0_1 : Int).toNat ([] : List Int)).length : Int))) rfl (fun hb30 => ?_) (fun hb30 => ?_)
      · have hm21 := ifT hb30 hm21
        refine WK_skip ?_
        refine WK_seq ?_
        refine WK_block ?_
        refine WK_seq ?_
        refine WK_region ?_
        refine WO_pure tbok 2 [(2, .pointer (some ⟨b3, 0, none⟩)), (3, .pointer (some ⟨b4, 0, none⟩)), (4, .slice none 0 0), (5, .int .i64 0), (7, .slice (some ⟨b8, 0, none⟩) ((List.replicate (p0_1 : Int).toNat ([] : List Int)).length) c9), (8, .int .i64 s_3), (21, .int .i64 ((List.replicate (p0_1 : Int).toNat ([] : List Int)).length : Int)), (22, .int .i64 s_3)] rfl ⟨rfl, rfl, rfl, rfl, rfl, rfl, rfl, rfl, trivial⟩ ?_
        refine WO_end ?_
        refine WK_seq ?_
        refine WK_region ?_
        refine WO_pure tbok 1 [(2, .pointer (some ⟨b3, 0, none⟩)), (3, .pointer (some ⟨b4, 0, none⟩)), (4, .slice none 0 0), (5, .int .i64 0), (7, .slice (some ⟨b8, 0, none⟩) ((List.replicate (p0_1 : Int).toNat ([] : List Int)).length) c9), (8, .int .i64 s_3), (21, .int .i64 ((List.replicate (p0_1 : Int).toNat ([] : List Int)).length : Int)), (22, .int .i64 s_3), (25, .pointer (some ⟨b3, 0, none⟩))] rfl ⟨rfl, rfl, rfl, rfl, rfl, rfl, rfl, rfl, rfl, trivial⟩ ?_
        refine WO_loadB tbok 0 rfl rfl rfl rfl (fun _ h => h) rfl rfl ?_
        refine WO_pure tbok 1 [(2, .pointer (some ⟨b3, 0, none⟩)), (3, .pointer (some ⟨b4, 0, none⟩)), (4, .slice none 0 0), (5, .int .i64 0), (7, .slice (some ⟨b8, 0, none⟩) ((List.replicate (p0_1 : Int).toNat ([] : List Int)).length) c9), (8, .int .i64 s_3), (21, .int .i64 ((List.replicate (p0_1 : Int).toNat ([] : List Int)).length : Int)), (22, .int .i64 s_3), (26, .int .i64 p0_0), (27, .int .i64 0)] rfl ⟨rfl, rfl, rfl, rfl, rfl, rfl, rfl, rfl, rfl, rfl, trivial⟩ ?_
        refine WO_end ?_
        obtain ⟨x37, hx38, hm21⟩ := bind_some hm21
        refine WK_join (β := (List (List Int)) × (List Value × List Ent)) (fun p => p.1 = x37 ∧ OwnT 23 3 1 (I1 .i64) (.slice (some ⟨b8, 0, none⟩) ((List.replicate (p0_1 : Int).toNat ([] : List Int)).length) c9) p.2.1 p.1 p.2.2) (fun p => [(2, .pointer (some ⟨b3, 0, none⟩)), (3, .pointer (some ⟨b4, 0, none⟩)), (4, .slice none 0 0), (5, .int .i64 0), (7, .slice (some ⟨b8, 0, none⟩) ((List.replicate (p0_1 : Int).toNat ([] : List Int)).length) c9), (21, .int .i64 ((List.replicate (p0_1 : Int).toNat ([] : List Int)).length : Int)), (22, .int .i64 s_3)]) (fun p => St w0 m m [[⟨b3, 50, [.int .i64 p0_0, .int .i64 p0_1, .int .i64 p0_2, .slice a_p0_3 p0_3.length c_p0_3]⟩], [⟨b4, 50, [.int .i64 p1_0, .int .i64 p1_1, .int .i64 p1_2, .slice a_p1_3 p1_3.length c_p1_3]⟩], p.2.2]) ?_ (fun hk39 => ?_)
        · rintro ⟨l_7, ⟨vs36, L35⟩⟩ ⟨hq45, hL35⟩
          subst hq45
          refine WK.sub (e' := [(2, .pointer (some ⟨b3, 0, none⟩)), (3, .pointer (some ⟨b4, 0, none⟩)), (4, .slice none 0 0), (5, .int .i64 0), (7, .slice (some ⟨b8, 0, none⟩) ((List.replicate (p0_1 : Int).toNat ([] : List Int)).length) c9), (21, .int .i64 ((List.replicate (p0_1 : Int).toNat ([] : List Int)).length : Int)), (22, .int .i64 s_3)]) ⟨rfl, rfl, rfl, rfl, rfl, rfl, rfl, trivial⟩ (WK.cls (C' := St w0 m m [[⟨b3, 50, [.int .i64 p0_0, .int .i64 p0_1, .int .i64 p0_2, .slice a_p0_3 p0_3.length c_p0_3]⟩], [⟨b4, 50, [.int .i64 p1_0, .int .i64 p1_1, .int .i64 p1_2, .slice a_p1_3 p1_3.length c_p1_3]⟩], L35]) (fun _ h => h) ?_)
          refine WK_blk ?_
          refine WK_region ?_
          refine WO_pure tbok 2 [(2, .pointer (some ⟨b3, 0, none⟩)), (3, .pointer (some ⟨b4, 0, none⟩)), (4, .slice none 0 0), (5, .int .i64 0), (7, .slice (some ⟨b8, 0, none⟩) ((List.replicate (p0_1 : Int).toNat ([] : List Int)).length) c9), (21, .int .i64 ((List.replicate (p0_1 : Int).toNat ([] : List Int)).length : Int)), (22, .int .i64 (w64 (s_3 + 1)))] rfl ⟨rfl, rfl, rfl, rfl, rfl, rfl, rfl, trivial⟩ ?_
          refine WO_end ?_
          cases hm21
          refine WK.sub ?_ (WK.cls (fun _ h => h) (hn24 _ (vs36, L35) rfl hL35))
          exact ⟨rfl, rfl, rfl, rfl, rfl, rfl, rfl, trivial⟩
        · refine WK_block ?_
          refine WK_loop (S := List (List Int) × Int) (G := List Value × List Ent) (fun s => seam_Costs_s2 p0_0 p0_3 p1_3 s_3 s.1 s.2) (fun s g => [(2, .pointer (some ⟨b3, 0, none⟩)), (3, .pointer (some ⟨b4, 0, none⟩)), (4, .slice none 0 0), (5, .int .i64 0), (7, .slice (some ⟨b8, 0, none⟩) ((List.replicate (p0_1 : Int).toNat ([] : List Int)).length) c9), (8, .int .i64 s_3), (21, .int .i64 ((List.replicate (p0_1 : Int).toNat ([] : List Int)).length : Int)), (22, .int .i64 s_3), (26, .int .i64 p0_0), (27, .int .i64 s.2)]) (fun s g => St w0 m m [[⟨b3, 50, [.int .i64 p0_0, .int .i64 p0_1, .int .i64 p0_2, .slice a_p0_3 p0_3.length c_p0_3]⟩], [⟨b4, 50, [.int .i64 p1_0, .int .i64 p1_1, .int .i64 p1_2, .slice a_p1_3 p1_3.length c_p1_3]⟩], g.2]) (fun s g => OwnT 23 3 1 (I1 .i64) (.slice (some ⟨b8, 0, none⟩) ((List.replicate (p0_1 : Int).toNat ([] : List Int)).length) c9) g.1 s.1 g.2) FUEL (l_2, 0) (vs14, L13) x37 hx38 hL13 ⟨rfl, rfl, rfl, rfl, rfl, rfl, rfl, rfl, rfl, rfl, trivial⟩ (fun _ h => h) ?_
          rintro ⟨l_5, s_6⟩ ⟨vs33, L32⟩ o41 fl42 hm40 hL32 hn43 hd44
          have hm40 : seam_Costs_s2 p0_0 p0_3 p1_3 s_3 l_5 s_6 = some o41 := hm40
          unfold seam_Costs_s2 at hm40
          refine WK.sub (e' := [(2, .pointer (some ⟨b3, 0, none⟩)), (3, .pointer (some ⟨b4, 0, none⟩)), (4, .slice none 0 0), (5, .int .i64 0), (7, .slice (some ⟨b8, 0, none⟩) ((List.replicate (p0_1 : Int).toNat ([] : List Int)).length) c9), (8, .int .i64 s_3), (21, .int .i64 ((List.replicate (p0_1 : Int).toNat ([] : List Int)).length : Int)), (22, .int .i64 s_3), (26, .int .i64 p0_0), (27, .int .i64 s_6)]) ⟨rfl, rfl, rfl, rfl, rfl, rfl, rfl, rfl, rfl, rfl, trivial⟩ (WK.cls (C' := St w0 m m [[⟨b3, 50, [.int .i64 p0_0, .int .i64 p0_1, .int .i64 p0_2, .slice a_p0_3 p0_3.length c_p0_3]⟩], [⟨b4, 50, [.int .i64 p1_0, .int .i64 p1_1, .int .i64 p1_2, .slice a_p1_3 p1_3.length c_p1_3]⟩], L32]) (fun _ h => h) ?_)
          refine WK_seq ?_
          refine WK_region ?_
          refine WO_pure tbok 1 [(2, .pointer (some ⟨b3, 0, none⟩)), (3, .pointer (some ⟨b4, 0, none⟩)), (4, .slice none 0 0), (5, .int .i64 0), (7, .slice (some ⟨b8, 0, none⟩) ((List.replicate (p0_1 : Int).toNat ([] : List Int)).length) c9), (8, .int .i64 s_3), (21, .int .i64 ((List.replicate (p0_1 : Int).toNat ([] : List Int)).length : Int)), (22, .int .i64 s_3), (26, .int .i64 p0_0), (27, .int .i64 s_6), (28, .bool (decide (s_6 < p0_0)))] rfl ⟨rfl, rfl, rfl, rfl, rfl, rfl, rfl, rfl, rfl, rfl, rfl, trivial⟩ ?_
          refine WO_end ?_
          refine WK_seq ?_
          refine WK_cond (b := decide (s_6 < p0_0)) rfl (fun hb46 => ?_) (fun hb46 => ?_)
          · have hm40 := ifT hb46 hm40
            refine WK_skip ?_
            refine WK_seq ?_
            refine WK_block ?_
            refine WK_seq ?_
            refine WK_region ?_
            refine WO_pure tbok 2 [(2, .pointer (some ⟨b3, 0, none⟩)), (3, .pointer (some ⟨b4, 0, none⟩)), (4, .slice none 0 0), (5, .int .i64 0), (7, .slice (some ⟨b8, 0, none⟩) ((List.replicate (p0_1 : Int).toNat ([] : List Int)).length) c9), (8, .int .i64 s_3), (9, .int .i64 s_6), (21, .int .i64 ((List.replicate (p0_1 : Int).toNat ([] : List Int)).length : Int)), (22, .int .i64 s_3), (26, .int .i64 p0_0), (27, .int .i64 s_6)] rfl ⟨rfl, rfl, rfl, rfl, rfl, rfl, rfl, rfl, rfl, rfl, rfl, trivial⟩ ?_
            refine WO_end ?_
            refine WK_seq ?_
            refine WK_draw 22 [0, 1, 2, 3, 4, 5, 6, 7, 8, 9, 10, 11, 12, 13, 14, 15, 16, 17, 18, 19, 20, 21] follows_ok (by kernel_rfl) St_closed ?_
            refine WO_pure tbok 1 [(2, .pointer (some ⟨b3, 0, none⟩)), (3, .pointer (some ⟨b4, 0, none⟩)), (4, .slice none 0 0), (5, .int .i64 0), (7, .slice (some ⟨b8, 0, none⟩) ((List.replicate (p0_1 : Int).toNat ([] : List Int)).length) c9), (8, .int .i64 s_3), (9, .int .i64 s_6), (21, .int .i64 ((List.replicate (p0_1 : Int).toNat ([] : List Int)).length : Int)), (22, .int .i64 s_3), (26, .int .i64 p0_0), (27, .int .i64 s_6), (30, .pointer (some ⟨b3, 3, none⟩))] rfl ⟨rfl, rfl, rfl, rfl, rfl, rfl, rfl, rfl, rfl, rfl, rfl, rfl, trivial⟩ ?_
            refine WO_loadB tbok 0 rfl rfl rfl rfl (fun _ h => h) rfl rfl ?_
            refine WO_pure tbok 2 [(2, .pointer (some ⟨b3, 0, none⟩)), (3, .pointer (some ⟨b4, 0, none⟩)), (4, .slice none 0 0), (5, .int .i64 0), (7, .slice (some ⟨b8, 0, none⟩) ((List.replicate (p0_1 : Int).toNat ([] : List Int)).length) c9), (8, .int .i64 s_3), (9, .int .i64 s_6), (21, .int .i64 ((List.replicate (p0_1 : Int).toNat ([] : List Int)).length : Int)), (22, .int .i64 s_3), (26, .int .i64 p0_0), (27, .int .i64 s_6), (31, .slice a_p0_3 p0_3.length c_p0_3), (32, .int .i64 s_3), (33, .pointer (some ⟨b3, 0, none⟩))] rfl ⟨rfl, rfl, rfl, rfl, rfl, rfl, rfl, rfl, rfl, rfl, rfl, rfl, rfl, rfl, trivial⟩ ?_
            refine WO_loadB tbok 0 rfl rfl rfl rfl (fun _ h => h) rfl rfl ?_
            refine WO_pure tbok 3 [(2, .pointer (some ⟨b3, 0, none⟩)), (3, .pointer (some ⟨b4, 0, none⟩)), (4, .slice none 0 0), (5, .int .i64 0), (7, .slice (some ⟨b8, 0, none⟩) ((List.replicate (p0_1 : Int).toNat ([] : List Int)).length) c9), (8, .int .i64 s_3), (9, .int .i64 s_6), (21, .int .i64 ((List.replicate (p0_1 : Int).toNat ([] : List Int)).length : Int)), (22, .int .i64 s_3), (26, .int .i64 p0_0), (27, .int .i64 s_6), (31, .slice a_p0_3 p0_3.length c_p0_3), (37, .int .i64 (w64 ((w64 (s_3 * p0_0)) + s_6)))] rfl ⟨rfl, rfl, rfl, rfl, rfl, rfl, rfl, rfl, rfl, rfl, rfl, rfl, rfl, trivial⟩ ?_
            obtain ⟨v_8, hy47, hm40⟩ := bind_some hm40
            obtain ⟨hc48, hy47⟩ := ix_some hy47
            refine WO_index tbok rfl rfl rfl rfl rfl rfl rfl rfl (SlR.addr h_p0_3) hc48 ?_
            refine WO_loadE tbok rfl rfl rfl rfl (fun _ h => St.sat h) h_p0_3 hy47 rfl ?_
            refine WO_pure tbok 1 [(2, .pointer (some ⟨b3, 0, none⟩)), (3, .pointer (some ⟨b4, 0, none⟩)), (4, .slice none 0 0), (5, .int .i64 0), (7, .slice (some ⟨b8, 0, none⟩) ((List.replicate (p0_1 : Int).toNat ([] : List Int)).length) c9), (8, .int .i64 s_3), (9, .int .i64 s_6), (21, .int .i64 ((List.replicate (p0_1 : Int).toNat ([] : List Int)).length : Int)), (22, .int .i64 s_3), (26, .int .i64 p0_0), (27, .int .i64 s_6), (39, .int .i64 v_8), (40, .pointer (some ⟨b4, 3, none⟩))] rfl ⟨rfl, rfl, rfl, rfl, rfl, rfl, rfl, rfl, rfl, rfl, rfl, rfl, rfl, trivial⟩ ?_
            refine WO_loadB tbok 1 rfl rfl rfl rfl (fun _ h => h) rfl rfl ?_
            refine WO_pure tbok 2 [(2, .pointer (some ⟨b3, 0, none⟩)), (3, .pointer (some ⟨b4, 0, none⟩)), (4, .slice none 0 0), (5, .int .i64 0), (7, .slice (some ⟨b8, 0, none⟩) ((List.replicate (p0_1 : Int).toNat ([] : List Int)).length) c9), (8, .int .i64 s_3), (9, .int .i64 s_6), (21, .int .i64 ((List.replicate (p0_1 : Int).toNat ([] : List Int)).length : Int)), (22, .int .i64 s_3), (26, .int .i64 p0_0), (27, .int .i64 s_6), (39, .int .i64 v_8), (41, .slice a_p1_3 p1_3.length c_p1_3), (42, .int .i64 s_3), (43, .pointer (some ⟨b3, 0, none⟩))] rfl ⟨rfl, rfl, rfl, rfl, rfl, rfl, rfl, rfl, rfl, rfl, rfl, rfl, rfl, rfl, rfl, trivial⟩ ?_
            refine WO_loadB tbok 0 rfl rfl rfl rfl (fun _ h => h) rfl rfl ?_
            refine WO_pure tbok 3 [(2, .pointer (some ⟨b3, 0, none⟩)), (3, .pointer (some ⟨b4, 0, none⟩)), (4, .slice none 0 0), (5, .int .i64 0), (7, .slice (some ⟨b8, 0, none⟩) ((List.replicate (p0_1 : Int).toNat ([] : List Int)).length) c9), (8, .int .i64 s_3), (21, .int .i64 ((List.replicate (p0_1 : Int).toNat ([] : List Int)).length : Int)), (22, .int .i64 s_3), (26, .int .i64 p0_0), (27, .int .i64 s_6), (39, .int .i64 v_8), (41, .slice a_p1_3 p1_3.length c_p1_3), (47, .int .i64 (w64 ((w64 (s_3 * p0_0)) + s_6)))] rfl ⟨rfl, rfl, rfl, rfl, rfl, rfl, rfl, rfl, rfl, rfl, rfl, rfl, rfl, trivial⟩ ?_
            obtain ⟨v_9, hy49, hm40⟩ := bind_some hm40
            obtain ⟨hc50, hy49⟩ := ix_some hy49
            refine WO_index tbok rfl rfl rfl rfl rfl rfl rfl rfl (SlR.addr h_p1_3) hc50 ?_
            refine WO_loadE tbok rfl rfl rfl rfl (fun _ h => St.sat h) h_p1_3 hy49 rfl ?_
            refine WO_pure tbok 2 [(2, .pointer (some ⟨b3, 0, none⟩)), (3, .pointer (some ⟨b4, 0, none⟩)), (4, .slice none 0 0), (5, .int .i64 0), (7, .slice (some ⟨b8, 0, none⟩) ((List.replicate (p0_1 : Int).toNat ([] : List Int)).length) c9), (8, .int .i64 s_3), (10, .int .i64 (w64 (v_8 - v_9))), (21, .int .i64 ((List.replicate (p0_1 : Int).toNat ([] : List Int)).length : Int)), (22, .int .i64 s_3), (26, .int .i64 p0_0), (27, .int .i64 s_6)] rfl ⟨rfl, rfl, rfl, rfl, rfl, rfl, rfl, rfl, rfl, rfl, rfl, trivial⟩ ?_
            refine WO_tail ?_
            refine WO_end ?_
            refine WK_region ?_
            refine WO_pure tbok 4 [(2, .pointer (some ⟨b3, 0, none⟩)), (3, .pointer (some ⟨b4, 0, none⟩)), (4, .slice none 0 0), (5, .int .i64 0), (7, .slice (some ⟨b8, 0, none⟩) ((List.replicate (p0_1 : Int).toNat ([] : List Int)).length) c9), (8, .int .i64 s_3), (10, .int .i64 (w64 (v_8 - v_9))), (21, .int .i64 ((List.replicate (p0_1 : Int).toNat ([] : List Int)).length : Int)), (22, .int .i64 s_3), (26, .int .i64 p0_0), (27, .int .i64 s_6), (51, .slice (some ⟨b8, 0, none⟩) ((List.replicate (p0_1 : Int).toNat ([] : List Int)).length) c9), (52, .int .i64 s_3), (53, .slice (some ⟨b8, 0, none⟩) ((List.replicate (p0_1 : Int).toNat ([] : List Int)).length) c9), (54, .int .i64 s_3)] rfl ⟨rfl, rfl, rfl, rfl, rfl, rfl, rfl, rfl, rfl, rfl, rfl, rfl, rfl, rfl, rfl, trivial⟩ ?_
            obtain ⟨v_10, hy51, hm40⟩ := bind_some hm40
            obtain ⟨hc52, hy51⟩ := ix_some hy51
            refine WO_index tbok rfl rfl rfl rfl rfl rfl rfl rfl (OwnT.addr hL32) (by simpa using hc52) ?_
            refine WO_loadT tbok 2 rfl rfl rfl rfl (fun _ h => h) hL32 rfl hy51 rfl rfl (fun a53 c54 L55 hv56 hr57 => ?_)
            refine WO_pure tbok 4 [(2, .pointer (some ⟨b3, 0, none⟩)), (3, .pointer (some ⟨b4, 0, none⟩)), (4, .slice none 0 0), (5, .int .i64 0), (7, .slice (some ⟨b8, 0, none⟩) ((List.replicate (p0_1 : Int).toNat ([] : List Int)).length) c9), (8, .int .i64 s_3), (21, .int .i64 ((List.replicate (p0_1 : Int).toNat ([] : List Int)).length : Int)), (22, .int .i64 s_3), (26, .int .i64 p0_0), (27, .int .i64 s_6), (51, .slice (some ⟨b8, 0, none⟩) ((List.replicate (p0_1 : Int).toNat ([] : List Int)).length) c9), (52, .int .i64 s_3), (56, .slice a53 v_10.length c54), (60, .int .i64 (if (w64 (v_8 - v_9)) < (w64 (0 - (w64 (v_8 - v_9)))) then (w64 (0 - (w64 (v_8 - v_9)))) else (w64 (v_8 - v_9))))] rfl ⟨rfl, rfl, rfl, rfl, rfl, rfl, rfl, rfl, rfl, rfl, rfl, rfl, rfl, rfl, trivial⟩ ?_
            refine WO_bslice (E := (I1 .i64)) tbok (fun _ => rfl) (by decide) [.int .i64 (if (w64 (v_8 - v_9)) < (w64 (0 - (w64 (v_8 - v_9)))) then (w64 (0 - (w64 (v_8 - v_9)))) else (w64 (v_8 - v_9)))] ([(if (w64 (v_8 - v_9)) < (w64 (0 - (w64 (v_8 - v_9)))) then (w64 (0 - (w64 (v_8 - v_9)))) else (w64 (v_8 - v_9)))] : List Int) rfl rfl trivial rfl rfl rfl rfl rfl rfl rfl rfl rfl rfl rfl rfl (fun b59 hb59 => ?_)
            refine WO.cls (C' := St w0 m m [[⟨b3, 50, [.int .i64 p0_0, .int .i64 p0_1, .int .i64 p0_2, .slice a_p0_3 p0_3.length c_p0_3]⟩], [⟨b4, 50, [.int .i64 p1_0, .int .i64 p1_1, .int .i64 p1_2, .slice a_p1_3 p1_3.length c_p1_3]⟩], L32, [⟨b59, 3, ([(if (w64 (v_8 - v_9)) < (w64 (0 - (w64 (v_8 - v_9)))) then (w64 (0 - (w64 (v_8 - v_9)))) else (w64 (v_8 - v_9)))] : List Int).flatMap (I1 .i64)⟩]]) (fun _ h => h) ?_
            refine WO_takeT (E := (I1 .i64)) (k := 1) 2 hL32 rfl hv56 hy51 (fun L61 L62 hL61 hL62 => ?_)
            refine WO.cls (C' := St w0 m m [[⟨b3, 50, [.int .i64 p0_0, .int .i64 p0_1, .int .i64 p0_2, .slice a_p0_3 p0_3.length c_p0_3]⟩], [⟨b4, 50, [.int .i64 p1_0, .int .i64 p1_1, .int .i64 p1_2, .slice a_p1_3 p1_3.length c_p1_3]⟩], L61, [⟨b59, 3, ([(if (w64 (v_8 - v_9)) < (w64 (0 - (w64 (v_8 - v_9)))) then (w64 (0 - (w64 (v_8 - v_9)))) else (w64 (v_8 - v_9)))] : List Int).flatMap (I1 .i64)⟩], L62]) (fun _ h => h) ?_
            obtain ⟨hc65, hm40⟩ := chk_some hm40
            refine WO_append (E := (I1 .i64)) tbok (fun _ => rfl) 4 ([(if (w64 (v_8 - v_9)) < (w64 (0 - (w64 (v_8 - v_9)))) then (w64 (0 - (w64 (v_8 - v_9)))) else (w64 (v_8 - v_9)))] : List Int) (fun _ _ => rfl) rfl rfl rfl rfl rfl rfl rfl rfl rfl rfl rfl rfl hL62 rfl (src_seg (j := 3) rfl) (ap_ok (by decide) hc65) (ap_max hc65) (fun a66 c67 L68 hL68 => ?_)
            refine WO.cls (C' := St w0 m m [[⟨b3, 50, [.int .i64 p0_0, .int .i64 p0_1, .int .i64 p0_2, .slice a_p0_3 p0_3.length c_p0_3]⟩], [⟨b4, 50, [.int .i64 p1_0, .int .i64 p1_1, .int .i64 p1_2, .slice a_p1_3 p1_3.length c_p1_3]⟩], L61, [⟨b59, 3, ([(if (w64 (v_8 - v_9)) < (w64 (0 - (w64 (v_8 - v_9)))) then (w64 (0 - (w64 (v_8 - v_9)))) else (w64 (v_8 - v_9)))] : List Int).flatMap (I1 .i64)⟩], L68]) (fun _ h => h) ?_
            obtain ⟨hc70, hm40⟩ := chk_some hm40
            refine WO_index tbok rfl rfl rfl rfl rfl rfl rfl rfl (OwnH.addr hL61) (by simpa using hc70) ?_
            refine WO_storeTH tbok 2 4 rfl rfl rfl rfl rfl hL61 rfl hL68 rfl rfl (by simpa using idx_lt hc70) rfl rfl rfl rfl (fun L71 hL71 => ?_)
            refine WO.cls (C' := St w0 m m [[⟨b3, 50, [.int .i64 p0_0, .int .i64 p0_1, .int .i64 p0_2, .slice a_p0_3 p0_3.length c_p0_3]⟩], [⟨b4, 50, [.int .i64 p1_0, .int .i64 p1_1, .int .i64 p1_2, .slice a_p1_3 p1_3.length c_p1_3]⟩], L71, [⟨b59, 3, ([(if (w64 (v_8 - v_9)) < (w64 (0 - (w64 (v_8 - v_9)))) then (w64 (0 - (w64 (v_8 - v_9)))) else (w64 (v_8 - v_9)))] : List Int).flatMap (I1 .i64)⟩], []]) (fun _ h => h) ?_
            refine WO_end ?_
            refine WK_blk ?_
            refine WK_region ?_
            refine WO_pure tbok 2 [(2, .pointer (some ⟨b3, 0, none⟩)), (3, .pointer (some ⟨b4, 0, none⟩)), (4, .slice none 0 0), (5, .int .i64 0), (7, .slice (some ⟨b8, 0, none⟩) ((List.replicate (p0_1 : Int).toNat ([] : List Int)).length) c9), (8, .int .i64 s_3), (21, .int .i64 ((List.replicate (p0_1 : Int).toNat ([] : List Int)).length : Int)), (22, .int .i64 s_3), (26, .int .i64 p0_0), (27, .int .i64 (w64 (s_6 + 1)))] rfl ⟨rfl, rfl, rfl, rfl, rfl, rfl, rfl, rfl, rfl, rfl, trivial⟩ ?_
            refine WO_end ?_
            cases hm40
            refine WK.sub ?_ (WK.cls (fun _ h => St.take 3 h) (hn43 _ ((vs33.set s_3.toNat (.slice a66 ((v_10 ++ ([(if (w64 (v_8 - v_9)) < (w64 (0 - (w64 (v_8 - v_9)))) then (w64 (0 - (w64 (v_8 - v_9)))) else (w64 (v_8 - v_9)))] : List Int)).length) c67)), L71) rfl hL71))
            exact ⟨rfl, rfl, rfl, rfl, rfl, rfl, rfl, rfl, rfl, rfl, trivial⟩
          · have hm40 := ifF hb46 hm40
            refine WK_exit rfl ?_
            cases hm40
            refine WK.sub ?_ (WK.cls (fun _ h => h) (hk39 (l_5, (vs33, L32)) ⟨(hd44 _ rfl), hL32⟩))
            exact ⟨rfl, rfl, rfl, rfl, rfl, rfl, rfl, trivial⟩
      · have hm21 := ifF hb30 hm21
        refine WK_exit rfl ?_
        cases hm21
        refine WK.sub ?_ (WK.cls (fun _ h => h) (hk20 (l_2, (vs14, L13)) ⟨(hd25 _ rfl), hL13⟩))
        exact ⟨rfl, rfl, rfl, trivial⟩
theorem fiduciallaw50_fits_walk {m : Mu} {p0_0 : Int} {p0_1 : Int} {p0_2 : Int} {p0_3 : List Int} {p1_0 : Int} {p1_1 : Int} {p1_2 : Int} {p1_3 : List Int} {a_p0_3 : Option Addr} {q_p0_3 c_p0_3 : Nat} {a_p1_3 : Option Addr} {q_p1_3 c_p1_3 : Nat} (h_p0_3 : SlR (FE (I1 .i64)) 1 m (.slice a_p0_3 q_p0_3 c_p0_3) p0_3) (h_p1_3 : SlR (FE (I1 .i64)) 1 m (.slice a_p1_3 q_p1_3 c_p1_3) p1_3) {r : Int} (hm : fiduciallaw50_fits p0_0 p0_1 p0_2 p0_3 p1_0 p1_1 p1_2 p1_3 = some r) :
    Go.E.Spec Try.prog 33 [.agg #[.int .i64 p0_0, .int .i64 p0_1, .int .i64 p0_2, .slice a_p0_3 q_p0_3 c_p0_3], .agg #[.int .i64 p1_0, .int .i64 p1_1, .int .i64 p1_2, .slice a_p1_3 q_p1_3 c_p1_3]] m (fun v _ _ => v = .int .i64 r) := by
  refine Spec_enter Try.func33 rfl rfl rfl (fun w0 => ?_)
  refine WK.sub (e' := [(0, .agg #[.int .i64 p0_0, .int .i64 p0_1, .int .i64 p0_2, .slice a_p0_3 q_p0_3 c_p0_3]), (1, .agg #[.int .i64 p1_0, .int .i64 p1_1, .int .i64 p1_2, .slice a_p1_3 q_p1_3 c_p1_3])]) ⟨rfl, rfl, trivial⟩ ?_
  obtain rfl := SlR.qlen h_p0_3
  obtain rfl := SlR.qlen h_p1_3
  refine WK.sub (e' := [(0, .agg #[.int .i64 p0_0, .int .i64 p0_1, .int .i64 p0_2, .slice a_p0_3 p0_3.length c_p0_3]), (1, .agg #[.int .i64 p1_0, .int .i64 p1_1, .int .i64 p1_2, .slice a_p1_3 p1_3.length c_p1_3])]) ⟨rfl, rfl, trivial⟩ ?_
  unfold fiduciallaw50_fits at hm
  refine WK_seq ?_
  refine WK_region ?_
  refine WO_box [.int .i64 p0_0, .int .i64 p0_1, .int .i64 p0_2, .slice a_p0_3 p0_3.length c_p0_3] rfl rfl trivial rfl rfl rfl (fun b3 => ?_)
  refine WO.cls (C' := St w0 m m [[⟨b3, 50, [.int .i64 p0_0, .int .i64 p0_1, .int .i64 p0_2, .slice a_p0_3 p0_3.length c_p0_3]⟩]]) (fun _ h => h) ?_
  refine WO_box [.int .i64 p1_0, .int .i64 p1_1, .int .i64 p1_2, .slice a_p1_3 p1_3.length c_p1_3] rfl rfl trivial rfl rfl rfl (fun b4 => ?_)
  refine WO.cls (C' := St w0 m m [[⟨b3, 50, [.int .i64 p0_0, .int .i64 p0_1, .int .i64 p0_2, .slice a_p0_3 p0_3.length c_p0_3]⟩], [⟨b4, 50, [.int .i64 p1_0, .int .i64 p1_1, .int .i64 p1_2, .slice a_p1_3 p1_3.length c_p1_3]⟩]]) (fun _ h => h) ?_
  refine WO_pure tbok 1 [(2, .pointer (some ⟨b3, 0, none⟩)), (3, .pointer (some ⟨b4, 0, none⟩)), (4, .int .i64 0)] rfl ⟨rfl, rfl, rfl, trivial⟩ ?_
  refine WO_end ?_
  refine WK_seq ?_
  refine WK_seq ?_
  refine WK_region ?_
  refine WO_loadB tbok 0 rfl rfl rfl rfl (fun _ h => h) rfl rfl ?_
  obtain ⟨y_1, hc5, hm⟩ := bind_some hm
  refine WO_call0 (.int .i64 y_1) rfl rfl trivial rfl rfl rfl rfl St_closed ⟨50, #[], #[], rfl, callable_50, fun w hw => ⟨_, hw.sat, fiducialref13_Check_walk h_p0_3 hc5⟩⟩ ?_
  refine WO_pure tbok 1 [(2, .pointer (some ⟨b3, 0, none⟩)), (3, .pointer (some ⟨b4, 0, none⟩)), (4, .int .i64 0), (5, .int .i64 y_1)] rfl ⟨rfl, rfl, rfl, rfl, trivial⟩ ?_
  refine WO_end ?_
  refine WK_seq ?_
  refine WK_region ?_
  refine WO_pure tbok 2 [(2, .pointer (some ⟨b3, 0, none⟩)), (3, .pointer (some ⟨b4, 0, none⟩)), (4, .int .i64 0), (5, .int .i64 y_1), (10, .bool (y_1 != 0))] rfl ⟨rfl, rfl, rfl, rfl, rfl, trivial⟩ ?_
  refine WO_end ?_
  refine WK_cond (b := y_1 != 0) rfl (fun hb6 => ?_) (fun hb6 => ?_)
  · have hm := ifT hb6 hm
    refine WK_seq ?_
    refine WK_region ?_
    refine WO_pure tbok 2 [(2, .pointer (some ⟨b3, 0, none⟩)), (3, .pointer (some ⟨b4, 0, none⟩)), (4, .int .i64 y_1)] rfl ⟨rfl, rfl, rfl, trivial⟩ ?_
    refine WO_end ?_
    cases hm
    exact WK_ret (ret_out (L := []) (RLc_tmp rfl RLc_nil) (List.nil_sublist _) rfl)
  · have hm := ifF hb6 hm
    refine WK_skip ?_
    refine WK_seq ?_
    refine WK_seq ?_
    refine WK_region ?_
    refine WO_loadB tbok 1 rfl rfl rfl rfl (fun _ h => h) rfl rfl ?_
    obtain ⟨y_2, hc7, hm⟩ := bind_some hm
    refine WO_call0 (.int .i64 y_2) rfl rfl trivial rfl rfl rfl rfl St_closed ⟨50, #[], #[], rfl, callable_50, fun w hw => ⟨_, hw.sat, fiducialref13_Check_walk h_p1_3 hc7⟩⟩ ?_
    refine WO_pure tbok 1 [(2, .pointer (some ⟨b3, 0, none⟩)), (3, .pointer (some ⟨b4, 0, none⟩)), (4, .int .i64 0), (6, .int .i64 y_2)] rfl ⟨rfl, rfl, rfl, rfl, trivial⟩ ?_
    refine WO_end ?_
    refine WK_seq ?_
    refine WK_region ?_
    refine WO_pure tbok 2 [(2, .pointer (some ⟨b3, 0, none⟩)), (3, .pointer (some ⟨b4, 0, none⟩)), (4, .int .i64 0), (6, .int .i64 y_2), (15, .bool (y_2 != 0))] rfl ⟨rfl, rfl, rfl, rfl, rfl, trivial⟩ ?_
    refine WO_end ?_
    refine WK_cond (b := y_2 != 0) rfl (fun hb8 => ?_) (fun hb8 => ?_)
    · have hm := ifT hb8 hm
      refine WK_seq ?_
      refine WK_region ?_
      refine WO_pure tbok 2 [(2, .pointer (some ⟨b3, 0, none⟩)), (3, .pointer (some ⟨b4, 0, none⟩)), (4, .int .i64 y_2)] rfl ⟨rfl, rfl, rfl, trivial⟩ ?_
      refine WO_end ?_
      cases hm
      exact WK_ret (ret_out (L := []) (RLc_tmp rfl RLc_nil) (List.nil_sublist _) rfl)
    · have hm := ifF hb8 hm
      refine WK_skip ?_
      refine WK_seq ?_
      refine WK_seq ?_
      obtain ⟨s_3, hx9, hm⟩ := bind_some hm
      refine WK_meet [(4, .int .i64 0), (35, .bool s_3)] (St w0 m m [[⟨b3, 50, [.int .i64 p0_0, .int .i64 p0_1, .int .i64 p0_2, .slice a_p0_3 p0_3.length c_p0_3]⟩], [⟨b4, 50, [.int .i64 p1_0, .int .i64 p1_1, .int .i64 p1_2, .slice a_p1_3 p1_3.length c_p1_3]⟩]]) ?_ (fun hk10 => ?_)
      · refine WK_cond (b := s_3) rfl (fun hb11 => ?_) (fun hb11 => ?_)
        · have hm := ifT hb11 hm
          refine WK_seq ?_
          refine WK_region ?_
          refine WO_pure tbok 1 [(4, .int .i64 4)] rfl ⟨rfl, trivial⟩ ?_
          refine WO_end ?_
          cases hm
          exact WK_ret (ret_out (L := []) (RLc_tmp rfl RLc_nil) (List.nil_sublist _) rfl)
        · have hm := ifF hb11 hm
          refine WK_skip ?_
          refine WK_seq ?_
          refine WK_region ?_
          refine WO_pure tbok 1 [(4, .int .i64 0)] rfl ⟨rfl, trivial⟩ ?_
          refine WO_end ?_
          cases hm
          exact WK_ret (ret_out (L := []) (RLc_tmp rfl RLc_nil) (List.nil_sublist _) rfl)
      · refine WK_region ?_
        refine WO_pure tbok 1 [(2, .pointer (some ⟨b3, 0, none⟩)), (3, .pointer (some ⟨b4, 0, none⟩)), (4, .int .i64 0), (17, .pointer (some ⟨b3, 0, none⟩))] rfl ⟨rfl, rfl, rfl, rfl, trivial⟩ ?_
        refine WO_loadB tbok 0 rfl rfl rfl rfl (fun _ h => h) rfl rfl ?_
        refine WO_pure tbok 1 [(2, .pointer (some ⟨b3, 0, none⟩)), (3, .pointer (some ⟨b4, 0, none⟩)), (4, .int .i64 0), (18, .int .i64 p0_0), (19, .pointer (some ⟨b4, 0, none⟩))] rfl ⟨rfl, rfl, rfl, rfl, rfl, trivial⟩ ?_
        refine WO_loadB tbok 1 rfl rfl rfl rfl (fun _ h => h) rfl rfl ?_
        refine WO_pure tbok 2 [(2, .pointer (some ⟨b3, 0, none⟩)), (3, .pointer (some ⟨b4, 0, none⟩)), (4, .int .i64 0), (22, .bool (p0_0 != p1_0))] rfl ⟨rfl, rfl, rfl, rfl, trivial⟩ ?_
        refine WO_split (d := 22) (b := p0_0 != p1_0) rfl (fun hb12 => ?_) (fun hb12 => ?_)
        · have hx9 := ifT hb12 hx9
          refine WO_pure tbok 13 [(4, .int .i64 0), (35, .bool true)] rfl ⟨rfl, rfl, trivial⟩ ?_
          refine WO_end ?_
          cases hx9
          refine WK.sub ?_ (WK.cls (fun _ h => h) hk10)
          exact ⟨rfl, rfl, trivial⟩
        · have hx9 := ifF hb12 hx9
          refine WO_pure tbok 1 [(2, .pointer (some ⟨b3, 0, none⟩)), (3, .pointer (some ⟨b4, 0, none⟩)), (4, .int .i64 0), (22, .bool false), (23, .pointer (some ⟨b3, 1, none⟩))] rfl ⟨rfl, rfl, rfl, rfl, rfl, trivial⟩ ?_
          refine WO_loadB tbok 0 rfl rfl rfl rfl (fun _ h => h) rfl rfl ?_
          refine WO_pure tbok 1 [(2, .pointer (some ⟨b3, 0, none⟩)), (3, .pointer (some ⟨b4, 0, none⟩)), (4, .int .i64 0), (22, .bool false), (24, .int .i64 p0_1), (25, .pointer (some ⟨b4, 1, none⟩))] rfl ⟨rfl, rfl, rfl, rfl, rfl, rfl, trivial⟩ ?_
          refine WO_loadB tbok 1 rfl rfl rfl rfl (fun _ h => h) rfl rfl ?_
          refine WO_pure tbok 3 [(2, .pointer (some ⟨b3, 0, none⟩)), (3, .pointer (some ⟨b4, 0, none⟩)), (4, .int .i64 0), (29, .bool (p0_1 != p1_1))] rfl ⟨rfl, rfl, rfl, rfl, trivial⟩ ?_
          refine WO_split (d := 29) (b := p0_1 != p1_1) rfl (fun hb13 => ?_) (fun hb13 => ?_)
          · have hx9 := ifT hb13 hx9
            refine WO_pure tbok 6 [(4, .int .i64 0), (35, .bool true)] rfl ⟨rfl, rfl, trivial⟩ ?_
            refine WO_end ?_
            cases hx9
            refine WK.sub ?_ (WK.cls (fun _ h => h) hk10)
            exact ⟨rfl, rfl, trivial⟩
          · have hx9 := ifF hb13 hx9
            refine WO_pure tbok 1 [(3, .pointer (some ⟨b4, 0, none⟩)), (4, .int .i64 0), (29, .bool false), (30, .pointer (some ⟨b3, 2, none⟩))] rfl ⟨rfl, rfl, rfl, rfl, trivial⟩ ?_
            refine WO_loadB tbok 0 rfl rfl rfl rfl (fun _ h => h) rfl rfl ?_
            refine WO_pure tbok 1 [(4, .int .i64 0), (29, .bool false), (31, .int .i64 p0_2), (32, .pointer (some ⟨b4, 2, none⟩))] rfl ⟨rfl, rfl, rfl, rfl, trivial⟩ ?_
            refine WO_loadB tbok 1 rfl rfl rfl rfl (fun _ h => h) rfl rfl ?_
            refine WO_pure tbok 2 [(4, .int .i64 0), (35, .bool (p0_2 != p1_2))] rfl ⟨rfl, rfl, trivial⟩ ?_
            refine WO_end ?_
            cases hx9
            refine WK.sub ?_ (WK.cls (fun _ h => h) hk10)
            exact ⟨rfl, rfl, trivial⟩
theorem fiduciallaw50_mosaicked_c1_walk {m : Mu} {p0 : Int} {q0_0 : Int} {q0_1 : Int} {q0_2 : Int} {q0_3 : List Int} {a_q0_3 : Option Addr} {q_q0_3 c_q0_3 : Nat} {b_q0 : Nat} (hb_q0 : m b_q0 = some (Ent.obj ⟨b_q0, 50, [.int .i64 q0_0, .int .i64 q0_1, .int .i64 q0_2, .slice a_q0_3 q_q0_3 c_q0_3]⟩)) (h_q0_3 : SlR (FE (I1 .i64)) 1 m (.slice a_q0_3 q_q0_3 c_q0_3) q0_3) {r : Bool} (hm : fiduciallaw50_mosaicked_c1 p0 q0_0 q0_1 q0_2 q0_3 = some r) :
    Go.E.Spec Try.prog 53 [.int .i64 p0, .pointer (some ⟨b_q0, 0, none⟩)] m (fun v _ _ => v = .bool r) := by
  refine Spec_enter Try.func53 rfl rfl rfl (fun w0 => ?_)
  refine WK.sub (e' := [(0, .int .i64 p0), (1, .pointer (some ⟨b_q0, 0, none⟩))]) ⟨rfl, rfl, trivial⟩ ?_
  obtain rfl := SlR.qlen h_q0_3
  refine WK.sub (e' := [(0, .int .i64 p0), (1, .pointer (some ⟨b_q0, 0, none⟩))]) ⟨rfl, rfl, trivial⟩ ?_
  unfold fiduciallaw50_mosaicked_c1 at hm
  refine WK_seq ?_
  refine WK_region ?_
  refine WO_pure tbok 1 [(0, .int .i64 p0), (1, .pointer (some ⟨b_q0, 0, none⟩)), (3, .bool false)] rfl ⟨rfl, rfl, rfl, trivial⟩ ?_
  refine WO_end ?_
  refine WK_seq ?_
  refine WK_region ?_
  refine WO_pure tbok 3 [(0, .int .i64 p0), (1, .pointer (some ⟨b_q0, 0, none⟩)), (3, .bool false), (6, .bool (decide (p0 < 0)))] rfl ⟨rfl, rfl, rfl, rfl, trivial⟩ ?_
  refine WO_split (d := 6) (b := decide (p0 < 0)) rfl (fun hb2 => ?_) (fun hb2 => ?_)
  · have hm := ifT hb2 hm
    refine WO_pure tbok 6 [(3, .bool true)] rfl ⟨rfl, trivial⟩ ?_
    refine WO_end ?_
    cases hm
    exact WK_ret (ret_out (L := []) (RLc_tmp rfl RLc_nil) (List.nil_sublist _) rfl)
  · have hm := ifF hb2 hm
    refine WO_pure tbok 2 [(3, .bool false), (6, .bool false), (7, .int .i64 p0), (8, .pointer (some ⟨b_q0, 0, none⟩))] rfl ⟨rfl, rfl, rfl, rfl, trivial⟩ ?_
    refine WO_loadM tbok rfl rfl rfl rfl (fun _ h => St.sat h) hb_q0 rfl ?_
    refine WO_pure tbok 3 [(3, .bool (decide (q0_0 < p0)))] rfl ⟨rfl, trivial⟩ ?_
    refine WO_end ?_
    cases hm
    exact WK_ret (ret_out (L := []) (RLc_tmp rfl RLc_nil) (List.nil_sublist _) rfl)
end Go.Proofs.Ytomlpofoaokmdaa
