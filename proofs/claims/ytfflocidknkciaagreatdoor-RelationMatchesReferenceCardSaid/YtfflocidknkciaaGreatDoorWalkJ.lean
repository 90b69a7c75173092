/- Walks through functions of the program, by explicit lemmas. -/
import Derived.Test.YtfflocidknkciaaGreatDoorWalkI
import Derived.Test.YtfflocidknkciaaGreatDoorSubA
set_option linter.all false
set_option maxRecDepth 100000
set_option maxHeartbeats 4000000
namespace Go.Proofs.YtfflocidknkciaaGreatDoor
open Go Go.V
theorem sindex_calls (l : List Int) (x : Int) (a : Option Addr) (c : Nat) (w : World) (hl : SlI w a l) :
    CV Tryz.prog 76 [.slice a l.length c, .int .i64 x] w (fun v w' => v = .int .i64 (idxL l x) ∧ Ext w w') := by
  have hlen := hl.len;refine CV_body Tryz.func76 rfl Tryz.ntmps76 (Nat.le_of_ble_eq_true rfl) ?_;refine W_sr ?_;refine L_an (.int _ _) rfl ?_;refine W_seq ?_;refine W_sr ?_;refine L_m (.slice _ _ _) rfl ?_;refine L_x (X_len (xs := []) Tryz.underlying23 rfl) ?_;refine L_mn (.int _ _) rfl ?_;refine W_block ?_;refine W_loopS (σ := Nat) [4, 5, 8, 9, 10, 11, 12, 13, 14, 15, 16, 17, 18] (fun k => [(8, .int .i64 (k : Int))]) (fun k w1 => Ext w w1 ∧ (k ≤ l.length ∧ notTo l x k)) (fun k => l.length - k) (0) ⟨rfl, trivial⟩ ⟨Ext.rfl, Nat.zero_le _, fun i hi => by omega⟩ ?_
  rintro k jw1 w1 ⟨hE, hk, hi⟩
  refine W_sr ?_;refine L_xn (X_lt (k := .i64) rfl rfl) ?_;refine W_seq ?_;refine W_cond rfl (fun h3 => ?_) (fun h3 => ?_)
  · have h3' := dT h3;refine W_skip ?_;refine W_seq ?_;refine W_block ?_;refine W_sr ?_;refine L_m (.int _ _) rfl ?_;refine L_an (.int _ _) rfl ?_;refine W_sr ?_;refine L_m (.int _ _) rfl ?_;refine L_m (.slice _ _ _) rfl ?_;refine L_m (.int _ _) rfl ?_;refine L_x (X_ixS (k) Tryz.underlying23 Tryz.sizeOf3 rfl rfl ((hl.ext hE).ad k (by omega)) (by first | rfl | omega) (by omega)) ?_;refine L_x (X_load Tryz.isAgg3 rfl ((hl.ext hE).get k (by omega))) ?_;refine L_xn (X_eq (k := .i64) rfl rfl) ?_;refine W_cond rfl (fun hd => ?_) (fun hd => ?_)
    · have hd' := dT hd;refine W_sr ?_;refine L_m (.int _ _) rfl ?_;refine L_an (.int _ _) rfl ?_;refine W_ret ?_;refine R_1 (.int _ _) rfl rfl rfl ?_;exact ⟨by rw [idxL_found (by omega) hi hd'.symm], hE⟩
    · have hd' := dF hd;refine W_skip ?_;refine W_region ?_;refine L_x (X_addI rfl rfl (by omega)) ?_;refine L_mn (.int _ _) rfl ?_;refine ⟨rfl, (by repeat first | exact Mod.refl | refine Mod.upd (by decide) ?_ | refine Mod.lay (by decide) (by decide) ?_), k + 1, (by omega), ⟨rfl, trivial⟩, hE, by omega, notTo_succ hi (by omega)⟩
  · have h3' := dF h3;refine W_exit0  ?_;refine W_sr ?_;refine L_an (.int _ _) rfl ?_;refine W_ret ?_;refine R_1 (.int _ _) rfl rfl rfl ?_;obtain rfl : k = l.length := (by omega);exact ⟨by rw [idxL_none hi], hE⟩

theorem scontains_calls (l : List Int) (x : Int) (a : Option Addr) (c : Nat) (w : World) (hl : SlI w a l) :
    CV Tryz.prog 35 [.slice a l.length c, .int .i64 x] w (fun v w' => v = .bool (decide (x ∈ l)) ∧ Ext w w') := by
  refine CV_body Tryz.func35 rfl Tryz.ntmps35 (Nat.le_of_ble_eq_true rfl) ?_;refine W_sr ?_;refine L_an (.bool _) rfl ?_;refine W_sr ?_;refine L_m (.slice _ _ _) rfl ?_;refine L_m (.int _ _) rfl ?_;refine L_o (O_call Tryz.call76 rfl rfl (sindex_calls l x a c _ (hl.ext Ext.rfl)) ?_);intro vw1 w1 rw1;obtain ⟨rfl, xw1⟩ := rw1;have hE : Ext w w1 := xw1;refine L_x (X_ge (k := .i64) rfl rfl) ?_;refine L_an (.bool _) rfl ?_;refine W_ret ?_;refine R_1 (.bool _) rfl rfl rfl ?_;exact ⟨vb (by simp only [decide_eq_true_eq]; have := idxL_neg (l := l) (x := x); constructor <;> intro q <;> (try (apply Classical.byContradiction; intro q2)) <;> first | (have := this.2 q2; omega) | (have := this.1 (by omega); exact this q)), hE⟩

theorem sequal_calls (l l2 : List Int) (a a2 : Option Addr) (c c2 : Nat) (w : World) (hl : SlI w a l) (hl2 : SlI w a2 l2) :
    CV Tryz.prog 92 [.slice a l.length c, .slice a2 l2.length c2] w (fun v w' => v = .bool (decide (l = l2)) ∧ Ext w w') := by
  have hlen := hl.len;have hlen2 := hl2.len;refine CV_body Tryz.func92 rfl Tryz.ntmps92 (Nat.le_of_ble_eq_true rfl) ?_;refine W_sr ?_;refine L_an (.bool _) rfl ?_;refine W_seq ?_;refine W_sr ?_;refine L_m (.slice _ _ _) rfl ?_;refine L_x (X_len (xs := []) Tryz.underlying23 rfl) ?_;refine L_m (.slice _ _ _) rfl ?_;refine L_x (X_len (xs := []) Tryz.underlying23 rfl) ?_;refine L_xn (X_ne (k := .i64) rfl rfl) ?_;refine W_cond rfl (fun hc => ?_) (fun hc => ?_)
  · have hc' := dT hc;have hne : l ≠ l2 := fun h => hc' (by rw [h]);refine W_sr ?_;refine L_an (.bool _) rfl ?_;refine W_ret ?_;refine R_1 (.bool _) rfl rfl rfl ?_;exact ⟨by simp [hne], Ext.rfl⟩
  · have hc' := dF hc;refine W_skip ?_;refine W_seq ?_;refine W_sr ?_;refine L_m (.slice _ _ _) rfl ?_;refine L_x (X_len (xs := []) Tryz.underlying23 rfl) ?_;refine L_mn (.int _ _) rfl ?_;refine W_block ?_;refine W_loopS (σ := Nat) [4, 5, 13, 14, 15, 16, 17, 18, 19, 20, 21, 22, 23, 24, 25] (fun k => [(13, .int .i64 (k : Int))]) (fun k w2 => Ext w w2 ∧ (k ≤ l.length ∧ eqTo l l2 k)) (fun k => l.length - k) (0) ⟨rfl, trivial⟩ ⟨Ext.rfl, Nat.zero_le _, fun i hi => by omega⟩ ?_
    rintro k jw2 w2 ⟨hE, hk, hi⟩
    refine W_sr ?_;refine L_xn (X_lt (k := .i64) rfl rfl) ?_;refine W_seq ?_;refine W_cond rfl (fun h4 => ?_) (fun h4 => ?_)
    · have h4' := dT h4;refine W_skip ?_;refine W_seq ?_;refine W_block ?_;refine W_sr ?_;refine L_m (.int _ _) rfl ?_;refine L_an (.int _ _) rfl ?_;refine W_seq ?_;refine W_drawn 9 [] (by kernel_rfl) (by kernel_rfl) (noRels rfl) ?_;refine WS_w rfl (fun _ _ _ => X_move (.slice _ _ _) rfl) ?_;refine WS_w rfl (fun _ _ _ => X_move (.int _ _) rfl) ?_;refine WS_w rfl (fun _ x7 _ => X_ixS (k) Tryz.underlying23 Tryz.sizeOf3 rfl rfl ((hl.ext (Ext.trans hE x7)).ad k (by omega)) (by first | rfl | omega) (by omega)) ?_;refine WS_w rfl (fun _ x8 _ => X_load Tryz.isAgg3 rfl ((hl.ext (Ext.trans hE x8)).get k (by omega))) ?_;refine WS_w rfl (fun _ _ _ => X_move (.slice _ _ _) rfl) ?_;refine WS_w rfl (fun _ _ _ => X_move (.int _ _) rfl) ?_;refine WS_w rfl (fun _ x11 _ => X_ixS (k) Tryz.underlying23 Tryz.sizeOf3 rfl rfl ((hl2.ext (Ext.trans hE x11)).ad k (by omega)) (by first | rfl | omega) (by omega)) ?_;refine WS_w rfl (fun _ x12 _ => X_load Tryz.isAgg3 rfl ((hl2.ext (Ext.trans hE x12)).get k (by omega))) ?_;refine WS_w rfl (fun _ _ _ => X_ne (k := .i64) rfl rfl) ?_;refine WS_nil ?_;intro w15 xw15 Fw15;obtain ⟨Fw15, Dw15⟩ := Fw15;have hE : Ext w w15 := hE.trans xw15;show WL _ _ _ _ _ [] _ _ _;refine WL_nil ?_;refine W_cond rfl (fun hd => ?_) (fun hd => ?_)
      · have hd' := dT hd;have hne : l ≠ l2 := fun h => hd' (by rw [h]);refine W_sr ?_;refine L_an (.bool _) rfl ?_;refine W_ret ?_;refine R_1 (.bool _) rfl rfl rfl ?_;exact ⟨by simp [hne], hE⟩
      · have hd' := dF hd;refine W_skip ?_;refine W_region ?_;refine L_x (X_addI rfl rfl (by omega)) ?_;refine L_mn (.int _ _) rfl ?_;refine ⟨rfl, (by repeat first | exact Mod.refl | refine Mod.upd (by decide) ?_ | refine Mod.lay (by decide) (by decide) ?_), k + 1, (by omega), ⟨rfl, trivial⟩, hE, by omega, eqTo_succ hi (by omega)⟩
    · have h4' := dF h4;refine W_exit0  ?_;refine W_sr ?_;refine L_an (.bool _) rfl ?_;refine W_ret ?_;refine R_1 (.bool _) rfl rfl rfl ?_;obtain rfl : k = l.length := (by omega);have he : l = l2 := list_eq_of (by omega) hi;exact ⟨by simp [he], hE⟩

theorem sclone_calls (l : List Int) (a : Option Addr) (c : Nat) (w : World) (hl : SlI w a l) (hll : l.length ≤ 1000000) :
    CV Tryz.prog 77 [.slice a l.length c] w (fun v w' => isNewI w.heap.size l v w' ∧ Ext w w') := by
  have hlen := hl.len;refine CV_body Tryz.func77 rfl Tryz.ntmps77 (Nat.le_of_ble_eq_true rfl) ?_;refine W_sr ?_;refine L_an (.slice none 0 0) rfl ?_;refine W_seq ?_;refine W_sr ?_;refine L_m (.slice _ _ _) rfl ?_;refine L_xn (X_eqNil Tryz.underlying23 rfl rfl) ?_;refine W_cond rfl (fun hc => ?_) (fun hc => ?_)
  · refine W_sr ?_;refine L_an (.slice none 0 0) rfl ?_;refine W_ret ?_;refine R_1 (.slice _ _ _) rfl rfl rfl ?_;have hn : l = [] := (by cases a with | none => exact hl.none | some q => cases hc);subst hn;exact ⟨New.nil, Ext.rfl⟩
  · refine W_skip ?_;refine W_sr ?_;refine L_o (O_buildSlice Tryz.underlying23 Tryz.sizeOf3 Tryz.zeroValue3 (by decide) [] ((made_list _ _).trans rfl) [] rfl ?_);intro w1 zq2 ezq2 Bzq2 xw1;have fzq2 : w.heap.size ≤ zq2 := (by have := (Ext.rfl : Ext w w).size; omega);have tzq2 : w.heap.size ≤ zq2 := (by omega);clear ezq2;have hE : Ext w w1 := xw1;refine L_m (.slice _ _ _) rfl ?_;refine L_o (O_cloneI w.heap.size rfl Bzq2 Tryz.underlying23 Tryz.type3 rfl rfl rfl rfl rfl (hl.ext hE) hE.size (by omega) ?_);intro v3 w4 hn1 xw4;have hE : Ext w w4 := hE.trans xw4;have Bzq2 := Bzq2.ext xw4;refine L_an (v3) rfl ?_;refine W_ret ?_;refine ⟨rfl, _, res_1 rfl (show RC _ _ _ _ (.tmp 2) v3 from rfl), ?_⟩;exact ⟨hn1, hE⟩

theorem shape10_calls (l l2 : List Int) (a a2 : Option Addr) (c c2 : Nat) (w : World) (hl : SlI w a l) (hl2 : SlI w a2 l2) :
    CV Tryz.prog 103 [.slice a l.length c, .slice a2 l2.length c2] w (fun v w' => v = .bool (shB l l2) ∧ Ext w w') := by
  have hlen := hl.len;have hlen2 := hl2.len;refine CV_body Tryz.func103 rfl Tryz.ntmps103 (Nat.le_of_ble_eq_true rfl) ?_;refine W_sr ?_;refine L_an (.bool _) rfl ?_;refine W_seq ?_;refine W_sr ?_;refine L_m (.slice _ _ _) rfl ?_;refine L_x (X_len (xs := []) Tryz.underlying23 rfl) ?_;refine L_m (.slice _ _ _) rfl ?_;refine L_x (X_len (xs := []) Tryz.underlying23 rfl) ?_;refine L_x (X_ne (k := .i64) rfl rfl) ?_;refine L_m (.bool _) rfl ?_;refine WL_split (d := 12) rfl (fun hc => ?_) (fun hc => ?_)
  · have hc' := dT hc;(iterate 3 refine L_gN rfl rfl hc ?_);refine L_xn (X_pickT (.bool _) rfl hc rfl) ?_;refine W_condT rfl rfl ?_;refine W_sr ?_;refine L_an (.bool _) rfl ?_;refine W_ret ?_;refine R_1 (.bool _) rfl rfl rfl ?_
    first
    | exact ⟨congrArg Value.bool (shp_false (.inl (by omega))).symm, by first | exact hE | exact Ext.rfl⟩
    | exact ⟨congrArg Value.bool (shp_false (.inr (.inl hd'))).symm, hE⟩
    | exact ⟨congrArg Value.bool (shp_false (.inr (.inr ⟨k, by omega, by omega⟩))).symm, hE⟩
    | (obtain rfl : k = l.length := by omega
       exact ⟨congrArg Value.bool (shp_iff.2 ⟨by omega, hd', hi⟩).symm, hE⟩)
  · have hc' := dF hc;refine L_y rfl rfl hc (X_move (.slice _ _ _) rfl) ?_;refine L_gY rfl rfl hc (O_call Tryz.call110 rfl rfl (increasing_calls l a c _ (hl.ext Ext.rfl)) ?_);intro vw2 w2 rw2;obtain ⟨rfl, xw2⟩ := rw2;have hE : Ext w w2 := xw2;refine L_y rfl rfl hc (X_not rfl) ?_;refine L_xn (X_pickF (.bool _) rfl hc rfl) ?_;refine W_cond rfl (fun hd => ?_) (fun hd => ?_)
    · have hd' := nT hd;refine W_sr ?_;refine L_an (.bool _) rfl ?_;refine W_ret ?_;refine R_1 (.bool _) rfl rfl rfl ?_
      first
      | exact ⟨congrArg Value.bool (shp_false (.inl (by omega))).symm, by first | exact hE | exact Ext.rfl⟩
      | exact ⟨congrArg Value.bool (shp_false (.inr (.inl hd'))).symm, hE⟩
      | exact ⟨congrArg Value.bool (shp_false (.inr (.inr ⟨k, by omega, by omega⟩))).symm, hE⟩
      | (obtain rfl : k = l.length := by omega
         exact ⟨congrArg Value.bool (shp_iff.2 ⟨by omega, hd', hi⟩).symm, hE⟩)
    · have hd' := nF hd;refine W_skip ?_;refine W_seq ?_;refine W_sr ?_;refine L_m (.slice _ _ _) rfl ?_;refine L_x (X_len (xs := []) Tryz.underlying23 rfl) ?_;refine L_mn (.int _ _) rfl ?_;refine W_block ?_;refine W_loopS (σ := Nat) [4, 5, 6, 19, 20, 21, 22, 23, 24, 25, 26, 27, 28, 29, 30, 31, 32, 33, 34, 35, 36, 37, 38, 39, 40, 41, 42, 43, 44] (fun k => [(19, .int .i64 (k : Int))]) (fun k w4 => Ext w w4 ∧ (k ≤ l.length ∧ shpTo l l2 k)) (fun k => l.length - k) (0) ⟨rfl, trivial⟩ ⟨hE, Nat.zero_le _, fun i hi => by omega⟩ ?_
      rintro k jw4 w4 ⟨hE, hk, hi⟩
      refine W_sr ?_;refine L_xn (X_lt (k := .i64) rfl rfl) ?_;refine W_seq ?_;refine W_cond rfl (fun h6 => ?_) (fun h6 => ?_)
      · have h6' := dT h6;refine W_skip ?_;refine W_seq ?_;refine W_block ?_;refine W_sr ?_;refine L_m (.int _ _) rfl ?_;refine L_x (X_ixS (k) Tryz.underlying23 Tryz.sizeOf3 rfl rfl ((hl.ext hE).ad k (by omega)) (by first | rfl | omega) (by omega)) ?_;refine L_x (X_load Tryz.isAgg3 rfl ((hl.ext hE).get k (by omega))) ?_;refine L_a (.int _ _) rfl ?_;refine L_an (.int _ _) rfl ?_;refine W_sr ?_;refine L_m (.int _ _) rfl ?_;refine L_x (X_lt (k := .i64) rfl rfl) ?_;refine L_m (.bool _) rfl ?_;refine WL_split (d := 26) rfl (fun h8 => ?_) (fun h8 => ?_)
        · have h8' := dT h8;(iterate 2 refine L_gN rfl rfl h8 ?_);refine L_x (X_pickT (.bool _) rfl h8 rfl) ?_;refine L_m (.bool _) rfl ?_;(iterate 5 refine L_gN rfl rfl rfl ?_);refine L_x (X_pickT (.bool _) rfl rfl rfl) ?_;refine L_m (.bool _) rfl ?_;(iterate 5 refine L_gN rfl rfl rfl ?_);refine L_xn (X_pickT (.bool _) rfl rfl rfl) ?_;refine W_condT rfl rfl ?_;refine W_sr ?_;refine L_an (.bool _) rfl ?_;refine W_ret ?_;refine R_1 (.bool _) rfl rfl rfl ?_
          first
          | exact ⟨congrArg Value.bool (shp_false (.inl (by omega))).symm, by first | exact hE | exact Ext.rfl⟩
          | exact ⟨congrArg Value.bool (shp_false (.inr (.inl hd'))).symm, hE⟩
          | exact ⟨congrArg Value.bool (shp_false (.inr (.inr ⟨k, by omega, by omega⟩))).symm, hE⟩
          | (obtain rfl : k = l.length := by omega
             exact ⟨congrArg Value.bool (shp_iff.2 ⟨by omega, hd', hi⟩).symm, hE⟩)
        · have h8' := dF h8;refine L_y rfl rfl h8 (X_move (.int _ _) rfl) ?_;refine L_y rfl rfl h8 (X_ge (k := .i64) rfl rfl) ?_;refine L_x (X_pickF (.bool _) rfl h8 rfl) ?_;refine L_m (.bool _) rfl ?_;refine WL_split (d := 30) rfl (fun h10 => ?_) (fun h10 => ?_)
          · have h10' := dT h10;(iterate 5 refine L_gN rfl rfl h10 ?_);refine L_x (X_pickT (.bool _) rfl h10 rfl) ?_;refine L_m (.bool _) rfl ?_;(iterate 5 refine L_gN rfl rfl rfl ?_);refine L_xn (X_pickT (.bool _) rfl rfl rfl) ?_;refine W_condT rfl rfl ?_;refine W_sr ?_;refine L_an (.bool _) rfl ?_;refine W_ret ?_;refine R_1 (.bool _) rfl rfl rfl ?_
            first
            | exact ⟨congrArg Value.bool (shp_false (.inl (by omega))).symm, by first | exact hE | exact Ext.rfl⟩
            | exact ⟨congrArg Value.bool (shp_false (.inr (.inl hd'))).symm, hE⟩
            | exact ⟨congrArg Value.bool (shp_false (.inr (.inr ⟨k, by omega, by omega⟩))).symm, hE⟩
            | (obtain rfl : k = l.length := by omega
               exact ⟨congrArg Value.bool (shp_iff.2 ⟨by omega, hd', hi⟩).symm, hE⟩)
          · have h10' := dF h10;refine L_y rfl rfl h10 (X_move (.slice _ _ _) rfl) ?_;refine L_y rfl rfl h10 (X_move (.int _ _) rfl) ?_;refine L_y rfl rfl h10 (X_ixS (k) Tryz.underlying23 Tryz.sizeOf3 rfl rfl ((hl2.ext hE).ad k (by omega)) (by first | rfl | omega) (by omega)) ?_;refine L_y rfl rfl h10 (X_load Tryz.isAgg3 rfl ((hl2.ext hE).get k (by omega))) ?_;refine L_y rfl rfl h10 (X_lt (k := .i64) rfl rfl) ?_;refine L_x (X_pickF (.bool _) rfl h10 rfl) ?_;refine L_m (.bool _) rfl ?_;refine WL_split (d := 37) rfl (fun h12 => ?_) (fun h12 => ?_)
            · have h12' := dT h12;(iterate 5 refine L_gN rfl rfl h12 ?_);refine L_xn (X_pickT (.bool _) rfl h12 rfl) ?_;refine W_condT rfl rfl ?_;refine W_sr ?_;refine L_an (.bool _) rfl ?_;refine W_ret ?_;refine R_1 (.bool _) rfl rfl rfl ?_
              first
              | exact ⟨congrArg Value.bool (shp_false (.inl (by omega))).symm, by first | exact hE | exact Ext.rfl⟩
              | exact ⟨congrArg Value.bool (shp_false (.inr (.inl hd'))).symm, hE⟩
              | exact ⟨congrArg Value.bool (shp_false (.inr (.inr ⟨k, by omega, by omega⟩))).symm, hE⟩
              | (obtain rfl : k = l.length := by omega
                 exact ⟨congrArg Value.bool (shp_iff.2 ⟨by omega, hd', hi⟩).symm, hE⟩)
            · have h12' := dF h12;refine L_y rfl rfl h12 (X_move (.slice _ _ _) rfl) ?_;refine L_y rfl rfl h12 (X_move (.int _ _) rfl) ?_;refine L_y rfl rfl h12 (X_ixS (k) Tryz.underlying23 Tryz.sizeOf3 rfl rfl ((hl2.ext hE).ad k (by omega)) (by first | rfl | omega) (by omega)) ?_;refine L_y rfl rfl h12 (X_load Tryz.isAgg3 rfl ((hl2.ext hE).get k (by omega))) ?_;refine L_y rfl rfl h12 (X_gt (k := .i64) rfl rfl) ?_;refine L_xn (X_pickF (.bool _) rfl h12 rfl) ?_;refine W_cond rfl (fun h14 => ?_) (fun h14 => ?_)
              · have h14' := dT h14;refine W_sr ?_;refine L_an (.bool _) rfl ?_;refine W_ret ?_;refine R_1 (.bool _) rfl rfl rfl ?_
                first
                | exact ⟨congrArg Value.bool (shp_false (.inl (by omega))).symm, by first | exact hE | exact Ext.rfl⟩
                | exact ⟨congrArg Value.bool (shp_false (.inr (.inl hd'))).symm, hE⟩
                | exact ⟨congrArg Value.bool (shp_false (.inr (.inr ⟨k, by omega, by omega⟩))).symm, hE⟩
                | (obtain rfl : k = l.length := by omega
                   exact ⟨congrArg Value.bool (shp_iff.2 ⟨by omega, hd', hi⟩).symm, hE⟩)
              · have h14' := dF h14;refine W_skip ?_;refine W_region ?_;refine L_x (X_addI rfl rfl (by omega)) ?_;refine L_mn (.int _ _) rfl ?_;refine ⟨rfl, (by repeat first | exact Mod.refl | refine Mod.upd (by decide) ?_ | refine Mod.lay (by decide) (by decide) ?_), k + 1, (by omega), ⟨rfl, trivial⟩, hE, by omega, shpTo_succ hi (by omega) (by omega) (by omega) (by omega)⟩
      · have h6' := dF h6;refine W_exit0  ?_;refine W_sr ?_;refine L_an (.bool _) rfl ?_;refine W_ret ?_;refine R_1 (.bool _) rfl rfl rfl ?_
        first
        | exact ⟨congrArg Value.bool (shp_false (.inl (by omega))).symm, by first | exact hE | exact Ext.rfl⟩
        | exact ⟨congrArg Value.bool (shp_false (.inr (.inl hd'))).symm, hE⟩
        | exact ⟨congrArg Value.bool (shp_false (.inr (.inr ⟨k, by omega, by omega⟩))).symm, hE⟩
        | (obtain rfl : k = l.length := by omega
           exact ⟨congrArg Value.bool (shp_iff.2 ⟨by omega, hd', hi⟩).symm, hE⟩)

theorem small10_calls (s : SetD) (a1 a2 a3 : Option Addr) (c1 c2 c3 : Nat) (w : World) (hsc : SlI w a1 s.cells) (hsu : SlI w a2 s.us) :
    CV Tryz.prog 78 [vS s a1 a2 a3 c1 c2 c3] w (fun v w' => v = .bool (decide (0 ≤ bitsL s.cells s.us 12)) ∧ Ext w w') := by
  refine CV_body Tryz.func78 rfl Tryz.ntmps78 (Nat.le_of_ble_eq_true rfl) ?_;refine W_sr ?_;refine L_o (O_box rfl [_, _, _] rfl ?_);intro w1 zq2 ezq2 Bzq2 xw1;have fzq2 : w.heap.size ≤ zq2 := (by have := (Ext.rfl : Ext w w).size; omega);have tzq2 : w.heap.size ≤ zq2 := (by omega);clear ezq2;have hE : Ext w w1 := xw1;refine L_an (.bool _) rfl ?_;refine W_sr ?_;refine L_x (X_fieldAddr Tryz.underlying31 rfl Tryz.sizeOf23 (by decide) rfl 0 rfl) ?_;refine L_x (X_load Tryz.isAgg23 rfl (Bzq2.cell rfl)) ?_;refine L_x (X_fieldAddr Tryz.underlying31 rfl Tryz.sizeOf23 (by decide) rfl 1 rfl) ?_;refine L_x (X_load Tryz.isAgg23 rfl (Bzq2.cell rfl)) ?_;refine L_o (O_call Tryz.call103 rfl rfl (shape10_calls s.cells s.us a1 a2 c1 c2 _ (hsc.ext hE) (hsu.ext hE)) ?_);intro vw3 w3 rw3;obtain ⟨rfl, xw3⟩ := rw3;have hE : Ext w w3 := hE.trans xw3;have Bzq2 := Bzq2.ext xw3;refine L_m (.bool _) rfl ?_;refine WL_split (d := 8) rfl (fun hc => ?_) (fun hc => ?_)
  · refine L_y rfl rfl hc (X_fieldAddr Tryz.underlying31 rfl Tryz.sizeOf23 (by decide) rfl 1 rfl) ?_;refine L_y rfl rfl hc (X_load Tryz.isAgg23 rfl (Bzq2.cell rfl)) ?_;refine L_gY rfl rfl hc (O_call Tryz.call97 rfl rfl (ssum_calls s.us a2 c2 _ (hsu.ext hE) (sh_wsOk hc)) ?_);intro vw5 w5 rw5;obtain ⟨rfl, xw5⟩ := rw5;have hE : Ext w w5 := hE.trans xw5;have Bzq2 := Bzq2.ext xw5;refine L_y rfl rfl hc (X_le (k := .i64) rfl rfl) ?_;refine L_x (X_pickT (.bool _) rfl hc rfl) ?_;refine L_an (.bool _) rfl ?_;refine W_ret ?_;refine R_1 (.bool _) rfl rfl rfl ?_;exact ⟨vb (by rw [decide_eq_true_eq, decide_eq_true_eq, bits12 hc]), hE⟩
  · (iterate 4 refine L_gN rfl rfl hc ?_);refine L_x (X_pickF (.bool _) rfl hc rfl) ?_;refine L_an (.bool _) rfl ?_;refine W_ret ?_;refine R_1 (.bool _) rfl rfl rfl ?_;exact ⟨vb (by rw [decide_eq_true_eq, bitsL_bad hc]; simp), hE⟩

end Go.Proofs.YtfflocidknkciaaGreatDoor
