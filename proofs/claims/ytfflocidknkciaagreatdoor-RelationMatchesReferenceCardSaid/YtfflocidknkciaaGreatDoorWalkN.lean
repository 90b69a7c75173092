/- Walks through functions of the program, by explicit lemmas. -/
import Derived.Test.YtfflocidknkciaaGreatDoorWalkM
import Derived.Test.YtfflocidknkciaaGreatDoorTree
set_option linter.all false
set_option maxRecDepth 100000
set_option maxHeartbeats 4000000
namespace Go.Proofs.YtfflocidknkciaaGreatDoor
open Go Go.V
theorem wide_calls (ks : List E) (l : List Int) (a b : Option Addr) (c d : Nat) (w : World) (hks : SlE w a ks) (hl : SlI w b l) :
    CV Tryz.prog 112 [.slice a ks.length c, .slice b l.length d] w (fun v w' => v = .bool (wideB ks l) ∧ Ext w w') := by
  have hlen := hks.len;have hlen2 := hl.len;refine CV_body Tryz.func112 rfl Tryz.ntmps112 (Nat.le_of_ble_eq_true rfl) ?_;refine W_sr ?_;refine L_an (.bool _) rfl ?_;refine W_seq ?_;refine W_sr ?_;refine L_m (.slice _ _ _) rfl ?_;refine L_x (X_len (xs := []) Tryz.underlying24 rfl) ?_;refine L_m (.slice _ _ _) rfl ?_;refine L_x (X_len (xs := []) Tryz.underlying23 rfl) ?_;refine L_xn (X_ne (k := .i64) rfl rfl) ?_;refine W_cond rfl (fun hc => ?_) (fun hc => ?_)
  · have hc' := dT hc;refine W_sr ?_;refine L_an (.bool _) rfl ?_;refine W_ret ?_;refine R_1 (.bool _) rfl rfl rfl ?_;exact ⟨congrArg Value.bool (wideB_no (.inl (by omega))).symm, Ext.rfl⟩
  · have hc' := dF hc;refine W_skip ?_;refine W_seq ?_;refine W_sr ?_;refine L_m (.slice _ _ _) rfl ?_;refine L_x (X_len (xs := []) Tryz.underlying23 rfl) ?_;refine L_mn (.int _ _) rfl ?_;refine W_block ?_;refine W_loopS (σ := Nat) [4, 5, 6, 14, 15, 16, 17, 18, 19, 20, 21, 22, 23, 24, 25, 26] (fun k => [(14, .int .i64 (k : Int))]) (fun k w2 => Ext w w2 ∧ (k ≤ l.length ∧ wideTo ks l k)) (fun k => l.length - k) (0) ⟨rfl, trivial⟩ ⟨Ext.rfl, Nat.zero_le _, fun i hi => by omega⟩ ?_
    rintro k jw2 w2 ⟨hE, hk, hi⟩
    refine W_sr ?_;refine L_xn (X_lt (k := .i64) rfl rfl) ?_;refine W_seq ?_;refine W_cond rfl (fun h4 => ?_) (fun h4 => ?_)
    · have h4' := dT h4;refine W_skip ?_;refine W_seq ?_;refine W_block ?_;refine W_sr ?_;refine L_m (.int _ _) rfl ?_;refine L_x (X_ixS (k) Tryz.underlying23 Tryz.sizeOf3 rfl rfl ((hl.ext hE).ad k (by omega)) (by first | rfl | omega) (by omega)) ?_;refine L_x (X_load Tryz.isAgg3 rfl ((hl.ext hE).get k (by omega))) ?_;refine L_a (.int _ _) rfl ?_;refine L_an (.int _ _) rfl ?_;refine W_sr ?_;refine L_m (.slice _ _ _) rfl ?_;refine L_m (.int _ _) rfl ?_;refine L_x (X_ixS (k) Tryz.underlying24 Tryz.sizeOf26 rfl rfl ((hks.extE hE).ad k (by omega)) (by first | rfl | omega) (by omega)) ?_;refine L_x (X_fieldAddr Tryz.underlying26 rfl Tryz.sizeOf3 (by decide) rfl (of' a + k * 4 + 1) rfl) ?_;refine L_x (X_load Tryz.isAgg3 rfl ((hks.extE hE).getW k (by omega))) ?_;refine L_m (.int _ _) rfl ?_;refine L_xn (X_ne (k := .i64) rfl rfl) ?_;refine W_cond rfl (fun hd => ?_) (fun hd => ?_)
      · have hd' := dT hd;refine W_sr ?_;refine L_an (.bool _) rfl ?_;refine W_ret ?_;refine R_1 (.bool _) rfl rfl rfl ?_;exact ⟨congrArg Value.bool (wideB_no (.inr ⟨k, by omega, hd'⟩)).symm, hE⟩
      · have hd' := dF hd;refine W_skip ?_;refine W_region ?_;refine L_x (X_addI rfl rfl (by omega)) ?_;refine L_mn (.int _ _) rfl ?_;refine ⟨rfl, (by repeat first | exact Mod.refl | refine Mod.upd (by decide) ?_ | refine Mod.lay (by decide) (by decide) ?_), k + 1, (by omega), ⟨rfl, trivial⟩, hE, by omega, wideTo_succ hi (by omega)⟩
    · have h4' := dF h4;refine W_exit0  ?_;refine W_sr ?_;refine L_an (.bool _) rfl ?_;refine W_ret ?_;refine R_1 (.bool _) rfl rfl rfl ?_;obtain rfl : k = l.length := (by omega);exact ⟨congrArg Value.bool (wideB_iff.2 ⟨by omega, hi⟩).symm, hE⟩

theorem shaped_calls (e : E) (b o : Nat) (ka : Option Addr) (kc : Nat) (w : World) (hM : Cells w 0 0 mkV) (hc : Cells w b o (NC e ka kc)) (hkk : SlE w ka e.ks) :
    CV Tryz.prog 102 [.pointer (some ⟨b, o, none⟩)] w (fun v w' => v = .bool (nodeB e) ∧ Ext w w') := by
  have hlen := hkk.len;refine CV_body Tryz.func102 rfl Tryz.ntmps102 (Nat.le_of_ble_eq_true rfl) ?_;refine W_sr ?_;refine L_an (.bool _) rfl ?_;refine W_seq ?_;refine W_sr ?_;refine L_m (.pointer _) rfl ?_;refine L_x (X_nilCheck rfl) ?_;refine L_x (X_fieldAddr Tryz.underlying26 rfl Tryz.sizeOf3 (by decide) rfl (o + 1) rfl) ?_;refine L_x (X_load Tryz.isAgg3 rfl ((hc.ext Ext.rfl) 1 _ rfl)) ?_;refine L_x (X_lt (k := .i64) rfl rfl) ?_;refine L_m (.bool _) rfl ?_;refine WL_split (d := 8) rfl (fun h2 => ?_) (fun h2 => ?_)
  · have h2' := dT h2;(iterate 5 refine L_gN rfl rfl h2 ?_);refine L_xn (X_pickT (.bool _) rfl h2 rfl) ?_;refine W_condT rfl rfl ?_;refine W_sr ?_;refine L_an (.bool _) rfl ?_;refine W_ret ?_;refine R_1 (.bool _) rfl rfl rfl ?_
    first
    | exact ⟨congrArg Value.bool (node_w (by omega)).symm, Ext.rfl⟩
    | exact ⟨vb (by rw [nodeB_iff, node_not hw (by omega) (by omega), wide1]), Ext.rfl⟩
    | exact ⟨vb (by rw [nodeB_iff, node_bin hw (by omega) (by omega), wide2]), Ext.rfl⟩
    | exact ⟨vb (by rw [nodeB_iff, node_ite hw (by omega) (by omega), wide3]), Ext.rfl⟩
    | exact ⟨congrArg Value.bool (node_op (by omega)).symm, Ext.rfl⟩
    | exact ⟨congrArg Value.bool (node_n (by omega) (by omega) (by omega) (by omega)).symm, Ext.rfl⟩
    | exact ⟨vb (by rw [nodeB_iff, node_const hw (by omega)]; (try simp only [decide_eq_true_eq]); constructor <;> intro hq <;> (try cases hq) <;> omega), Ext.rfl⟩
    | exact ⟨vb (by rw [nodeB_iff, node_cell hw (by omega)]; (try simp only [decide_eq_true_eq]); constructor <;> intro hq <;> (try cases hq) <;> omega), Ext.rfl⟩
    | exact ⟨vb (by rw [nodeB_iff, node_cmp hw (by omega) (by omega)]; (try simp only [decide_eq_true_eq]); constructor <;> intro hq <;> (try cases hq) <;> omega), Ext.rfl⟩
  · have h2' := dF h2;refine L_y rfl rfl h2 (X_move (.pointer _) rfl) ?_;refine L_y rfl rfl h2 (X_nilCheck rfl) ?_;refine L_y rfl rfl h2 (X_fieldAddr Tryz.underlying26 rfl Tryz.sizeOf3 (by decide) rfl (o + 1) rfl) ?_;refine L_y rfl rfl h2 (X_load Tryz.isAgg3 rfl ((hc.ext Ext.rfl) 1 _ rfl)) ?_;refine L_y rfl rfl h2 (X_gt (k := .i64) rfl rfl) ?_;refine L_xn (X_pickF (.bool _) rfl h2 rfl) ?_;refine W_cond rfl (fun hcw => ?_) (fun hcw => ?_)
    · have hcw' := dT hcw;refine W_sr ?_;refine L_an (.bool _) rfl ?_;refine W_ret ?_;refine R_1 (.bool _) rfl rfl rfl ?_
      first
      | exact ⟨congrArg Value.bool (node_w (by omega)).symm, Ext.rfl⟩
      | exact ⟨vb (by rw [nodeB_iff, node_not hw (by omega) (by omega), wide1]), Ext.rfl⟩
      | exact ⟨vb (by rw [nodeB_iff, node_bin hw (by omega) (by omega), wide2]), Ext.rfl⟩
      | exact ⟨vb (by rw [nodeB_iff, node_ite hw (by omega) (by omega), wide3]), Ext.rfl⟩
      | exact ⟨congrArg Value.bool (node_op (by omega)).symm, Ext.rfl⟩
      | exact ⟨congrArg Value.bool (node_n (by omega) (by omega) (by omega) (by omega)).symm, Ext.rfl⟩
      | exact ⟨vb (by rw [nodeB_iff, node_const hw (by omega)]; (try simp only [decide_eq_true_eq]); constructor <;> intro hq <;> (try cases hq) <;> omega), Ext.rfl⟩
      | exact ⟨vb (by rw [nodeB_iff, node_cell hw (by omega)]; (try simp only [decide_eq_true_eq]); constructor <;> intro hq <;> (try cases hq) <;> omega), Ext.rfl⟩
      | exact ⟨vb (by rw [nodeB_iff, node_cmp hw (by omega) (by omega)]; (try simp only [decide_eq_true_eq]); constructor <;> intro hq <;> (try cases hq) <;> omega), Ext.rfl⟩
    · have hcw' := dF hcw;have hw : 1 ≤ e.w ∧ e.w ≤ 8 := (by omega);refine W_skip ?_;refine W_seq ?_;refine W_sr ?_;refine L_m (.pointer _) rfl ?_;refine L_x (X_nilCheck rfl) ?_;refine L_x (X_fieldAddr Tryz.underlying26 rfl Tryz.sizeOf3 (by decide) rfl o rfl) ?_;refine L_xn (X_load Tryz.isAgg3 rfl ((hc.ext Ext.rfl) 0 _ rfl)) ?_;refine W_block ?_;refine W_sr ?_;refine L_x (X_eq (k := .i64) rfl rfl) ?_;refine L_an (.bool _) rfl ?_;refine W_cond rfl (fun ho1 => ?_) (fun ho1 => ?_)
      · have ho1' := dT ho1;refine W_seq ?_;refine W_drawn 26 [] (by kernel_rfl) (by kernel_rfl) (noRels rfl) ?_;refine WS_w rfl (fun _ _ _ => X_move (.pointer _) rfl) ?_;refine WS_w rfl (fun _ _ _ => X_nilCheck rfl) ?_;refine WS_w rfl (fun _ _ _ => X_fieldAddr Tryz.underlying26 rfl Tryz.sizeOf24 (by decide) rfl (o + 3) rfl) ?_;refine WS_w rfl (fun _ x8 _ => X_load Tryz.isAgg24 rfl ((hc.ext (Ext.trans Ext.rfl x8)) 3 _ rfl)) ?_;refine WS_w rfl (fun _ _ _ => X_len (xs := []) Tryz.underlying24 rfl) ?_;refine WS_w rfl (fun _ _ _ => X_eq (k := .i64) rfl rfl) ?_;refine WS_w rfl (fun _ _ _ => X_move (.bool _) rfl) ?_;refine WS_split (d := 27) rfl (fun h13 => ?_) (fun h13 => ?_)
        · have h13' := dT h13;refine WS_y rfl rfl h13 rfl (fun _ _ _ => X_move (.pointer _) rfl) ?_;refine WS_y rfl rfl h13 rfl (fun _ _ _ => X_nilCheck rfl) ?_;refine WS_y rfl rfl h13 rfl (fun _ _ _ => X_fieldAddr Tryz.underlying26 rfl Tryz.sizeOf3 (by decide) rfl (o + 2) rfl) ?_;refine WS_y rfl rfl h13 rfl (fun _ x17 _ => X_load Tryz.isAgg3 rfl ((hc.ext (Ext.trans Ext.rfl x17)) 2 _ rfl)) ?_;refine WS_y rfl rfl h13 rfl (fun _ _ _ => X_ge (k := .i64) rfl rfl) ?_;refine WS_w rfl (fun _ _ _ => X_pickT (.bool _) rfl h13 rfl) ?_;refine WS_w rfl (fun _ _ _ => X_move (.bool _) rfl) ?_;refine WS_split (d := 34) rfl (fun h22 => ?_) (fun h22 => ?_)
          · have h22' := dT h22;refine WS_y rfl rfl h22 rfl (fun _ _ _ => X_move (.pointer _) rfl) ?_;refine WS_y rfl rfl h22 rfl (fun _ _ _ => X_nilCheck rfl) ?_;refine WS_y rfl rfl h22 rfl (fun _ _ _ => X_fieldAddr Tryz.underlying26 rfl Tryz.sizeOf3 (by decide) rfl (o + 2) rfl) ?_;refine WS_y rfl rfl h22 rfl (fun _ x26 _ => X_load Tryz.isAgg3 rfl ((hc.ext (Ext.trans Ext.rfl x26)) 2 _ rfl)) ?_;refine WS_y rfl rfl h22 rfl (fun _ _ _ => X_move (.pointer _) rfl) ?_;refine WS_y rfl rfl h22 rfl (fun _ _ _ => X_nilCheck rfl) ?_;refine WS_y rfl rfl h22 rfl (fun _ _ _ => X_fieldAddr Tryz.underlying26 rfl Tryz.sizeOf3 (by decide) rfl (o + 1) rfl) ?_;refine WS_y rfl rfl h22 rfl (fun _ x30 _ => X_load Tryz.isAgg3 rfl ((hc.ext (Ext.trans Ext.rfl x30)) 1 _ rfl)) ?_;refine WS_y rfl rfl h22 rfl (fun _ _ _ => X_ixA (e.w.toNat) Tryz.underlying117 Tryz.sizeOf3 rfl rfl (by first | rfl | omega) (by omega)) ?_;refine WS_y rfl rfl h22 rfl (fun _ x32 _ => X_load Tryz.isAgg3 rfl (mask_cell (hM.ext (Ext.trans Ext.rfl x32)) (by omega))) ?_;refine WS_y rfl rfl h22 rfl (fun _ _ _ => X_le (k := .i64) rfl rfl) ?_;refine WS_w rfl (fun _ _ _ => X_pickT (.bool _) rfl h22 rfl) ?_;refine WS_nil ?_;intro w36 xw36 Fw36;obtain ⟨Fw36, Dw36⟩ := Fw36;have hE : Ext w w36 := xw36;show WL _ _ _ _ _ [_] _ _ _;refine L_an (.bool _) rfl ?_;refine W_ret ?_;refine R_1 (.bool _) rfl rfl rfl ?_
            first
            | exact ⟨congrArg Value.bool (node_w (by omega)).symm, hE⟩
            | exact ⟨vb (by rw [nodeB_iff, node_not hw (by omega) (by omega), wide1]), hE⟩
            | exact ⟨vb (by rw [nodeB_iff, node_bin hw (by omega) (by omega), wide2]), hE⟩
            | exact ⟨vb (by rw [nodeB_iff, node_ite hw (by omega) (by omega), wide3]), hE⟩
            | exact ⟨congrArg Value.bool (node_op (by omega)).symm, hE⟩
            | exact ⟨congrArg Value.bool (node_n (by omega) (by omega) (by omega) (by omega)).symm, hE⟩
            | exact ⟨vb (by rw [nodeB_iff, node_const hw (by omega)]; (try simp only [decide_eq_true_eq]); constructor <;> intro hq <;> (try cases hq) <;> omega), hE⟩
            | exact ⟨vb (by rw [nodeB_iff, node_cell hw (by omega)]; (try simp only [decide_eq_true_eq]); constructor <;> intro hq <;> (try cases hq) <;> omega), hE⟩
            | exact ⟨vb (by rw [nodeB_iff, node_cmp hw (by omega) (by omega)]; (try simp only [decide_eq_true_eq]); constructor <;> intro hq <;> (try cases hq) <;> omega), hE⟩
          · have h22' := dF h22;(iterate 11 refine WS_gN rfl rfl h22 ?_);refine WS_w rfl (fun _ _ _ => X_pickF (.bool _) rfl h22 rfl) ?_;refine WS_nil ?_;intro w38 xw38 Fw38;obtain ⟨Fw38, Dw38⟩ := Fw38;have hE : Ext w w38 := xw38;show WL _ _ _ _ _ [_] _ _ _;refine L_an (.bool _) rfl ?_;refine W_ret ?_;refine R_1 (.bool _) rfl rfl rfl ?_
            first
            | exact ⟨congrArg Value.bool (node_w (by omega)).symm, hE⟩
            | exact ⟨vb (by rw [nodeB_iff, node_not hw (by omega) (by omega), wide1]), hE⟩
            | exact ⟨vb (by rw [nodeB_iff, node_bin hw (by omega) (by omega), wide2]), hE⟩
            | exact ⟨vb (by rw [nodeB_iff, node_ite hw (by omega) (by omega), wide3]), hE⟩
            | exact ⟨congrArg Value.bool (node_op (by omega)).symm, hE⟩
            | exact ⟨congrArg Value.bool (node_n (by omega) (by omega) (by omega) (by omega)).symm, hE⟩
            | exact ⟨vb (by rw [nodeB_iff, node_const hw (by omega)]; (try simp only [decide_eq_true_eq]); constructor <;> intro hq <;> (try cases hq) <;> omega), hE⟩
            | exact ⟨vb (by rw [nodeB_iff, node_cell hw (by omega)]; (try simp only [decide_eq_true_eq]); constructor <;> intro hq <;> (try cases hq) <;> omega), hE⟩
            | exact ⟨vb (by rw [nodeB_iff, node_cmp hw (by omega) (by omega)]; (try simp only [decide_eq_true_eq]); constructor <;> intro hq <;> (try cases hq) <;> omega), hE⟩
        · have h13' := dF h13;(iterate 5 refine WS_gN rfl rfl h13 ?_);refine WS_w rfl (fun _ _ _ => X_pickF (.bool _) rfl h13 rfl) ?_;refine WS_w rfl (fun _ _ _ => X_move (.bool _) rfl) ?_;(iterate 11 refine WS_gN rfl rfl rfl ?_);refine WS_w rfl (fun _ _ _ => X_pickF (.bool _) rfl rfl rfl) ?_;refine WS_nil ?_;intro w42 xw42 Fw42;obtain ⟨Fw42, Dw42⟩ := Fw42;have hE : Ext w w42 := xw42;show WL _ _ _ _ _ [_] _ _ _;refine L_an (.bool _) rfl ?_;refine W_ret ?_;refine R_1 (.bool _) rfl rfl rfl ?_
          first
          | exact ⟨congrArg Value.bool (node_w (by omega)).symm, hE⟩
          | exact ⟨vb (by rw [nodeB_iff, node_not hw (by omega) (by omega), wide1]), hE⟩
          | exact ⟨vb (by rw [nodeB_iff, node_bin hw (by omega) (by omega), wide2]), hE⟩
          | exact ⟨vb (by rw [nodeB_iff, node_ite hw (by omega) (by omega), wide3]), hE⟩
          | exact ⟨congrArg Value.bool (node_op (by omega)).symm, hE⟩
          | exact ⟨congrArg Value.bool (node_n (by omega) (by omega) (by omega) (by omega)).symm, hE⟩
          | exact ⟨vb (by rw [nodeB_iff, node_const hw (by omega)]; (try simp only [decide_eq_true_eq]); constructor <;> intro hq <;> (try cases hq) <;> omega), hE⟩
          | exact ⟨vb (by rw [nodeB_iff, node_cell hw (by omega)]; (try simp only [decide_eq_true_eq]); constructor <;> intro hq <;> (try cases hq) <;> omega), hE⟩
          | exact ⟨vb (by rw [nodeB_iff, node_cmp hw (by omega) (by omega)]; (try simp only [decide_eq_true_eq]); constructor <;> intro hq <;> (try cases hq) <;> omega), hE⟩
      · have ho1' := dF ho1;refine W_seq ?_;refine W_sr ?_;refine L_x (X_eq (k := .i64) rfl rfl) ?_;refine L_an (.bool _) rfl ?_;refine W_cond rfl (fun ho2 => ?_) (fun ho2 => ?_)
        · have ho2' := dT ho2;refine W_skip ?_;refine W_condT rfl ho2 ?_;refine W_sr ?_;refine L_m (.pointer _) rfl ?_;refine L_x (X_nilCheck rfl) ?_;refine L_x (X_fieldAddr Tryz.underlying26 rfl Tryz.sizeOf24 (by decide) rfl (o + 3) rfl) ?_;refine L_x (X_load Tryz.isAgg24 rfl ((hc.ext Ext.rfl) 3 _ rfl)) ?_;refine L_x (X_len (xs := []) Tryz.underlying24 rfl) ?_;refine L_x (X_eq (k := .i64) rfl rfl) ?_;refine L_m (.bool _) rfl ?_;refine WL_split (d := 56) rfl (fun h45 => ?_) (fun h45 => ?_)
          · have h45' := dT h45;refine L_y rfl rfl h45 (X_move (.pointer _) rfl) ?_;refine L_y rfl rfl h45 (X_nilCheck rfl) ?_;refine L_y rfl rfl h45 (X_fieldAddr Tryz.underlying26 rfl Tryz.sizeOf3 (by decide) rfl (o + 2) rfl) ?_;refine L_y rfl rfl h45 (X_load Tryz.isAgg3 rfl ((hc.ext Ext.rfl) 2 _ rfl)) ?_;refine L_y rfl rfl h45 (X_ge (k := .i64) rfl rfl) ?_;refine L_x (X_pickT (.bool _) rfl h45 rfl) ?_;refine L_m (.bool _) rfl ?_;refine WL_split (d := 63) rfl (fun h47 => ?_) (fun h47 => ?_)
            · have h47' := dT h47;refine L_y rfl rfl h47 (X_move (.pointer _) rfl) ?_;refine L_y rfl rfl h47 (X_nilCheck rfl) ?_;refine L_y rfl rfl h47 (X_fieldAddr Tryz.underlying26 rfl Tryz.sizeOf3 (by decide) rfl (o + 2) rfl) ?_;refine L_y rfl rfl h47 (X_load Tryz.isAgg3 rfl ((hc.ext Ext.rfl) 2 _ rfl)) ?_;refine L_y rfl rfl h47 (X_lt (k := .i64) rfl rfl) ?_;refine L_x (X_pickT (.bool _) rfl h47 rfl) ?_;refine L_an (.bool _) rfl ?_;refine W_ret ?_;refine R_1 (.bool _) rfl rfl rfl ?_
              first
              | exact ⟨congrArg Value.bool (node_w (by omega)).symm, Ext.rfl⟩
              | exact ⟨vb (by rw [nodeB_iff, node_not hw (by omega) (by omega), wide1]), Ext.rfl⟩
              | exact ⟨vb (by rw [nodeB_iff, node_bin hw (by omega) (by omega), wide2]), Ext.rfl⟩
              | exact ⟨vb (by rw [nodeB_iff, node_ite hw (by omega) (by omega), wide3]), Ext.rfl⟩
              | exact ⟨congrArg Value.bool (node_op (by omega)).symm, Ext.rfl⟩
              | exact ⟨congrArg Value.bool (node_n (by omega) (by omega) (by omega) (by omega)).symm, Ext.rfl⟩
              | exact ⟨vb (by rw [nodeB_iff, node_const hw (by omega)]; (try simp only [decide_eq_true_eq]); constructor <;> intro hq <;> (try cases hq) <;> omega), Ext.rfl⟩
              | exact ⟨vb (by rw [nodeB_iff, node_cell hw (by omega)]; (try simp only [decide_eq_true_eq]); constructor <;> intro hq <;> (try cases hq) <;> omega), Ext.rfl⟩
              | exact ⟨vb (by rw [nodeB_iff, node_cmp hw (by omega) (by omega)]; (try simp only [decide_eq_true_eq]); constructor <;> intro hq <;> (try cases hq) <;> omega), Ext.rfl⟩
            · have h47' := dF h47;(iterate 5 refine L_gN rfl rfl h47 ?_);refine L_x (X_pickF (.bool _) rfl h47 rfl) ?_;refine L_an (.bool _) rfl ?_;refine W_ret ?_;refine R_1 (.bool _) rfl rfl rfl ?_
              first
              | exact ⟨congrArg Value.bool (node_w (by omega)).symm, Ext.rfl⟩
              | exact ⟨vb (by rw [nodeB_iff, node_not hw (by omega) (by omega), wide1]), Ext.rfl⟩
              | exact ⟨vb (by rw [nodeB_iff, node_bin hw (by omega) (by omega), wide2]), Ext.rfl⟩
              | exact ⟨vb (by rw [nodeB_iff, node_ite hw (by omega) (by omega), wide3]), Ext.rfl⟩
              | exact ⟨congrArg Value.bool (node_op (by omega)).symm, Ext.rfl⟩
              | exact ⟨congrArg Value.bool (node_n (by omega) (by omega) (by omega) (by omega)).symm, Ext.rfl⟩
              | exact ⟨vb (by rw [nodeB_iff, node_const hw (by omega)]; (try simp only [decide_eq_true_eq]); constructor <;> intro hq <;> (try cases hq) <;> omega), Ext.rfl⟩
              | exact ⟨vb (by rw [nodeB_iff, node_cell hw (by omega)]; (try simp only [decide_eq_true_eq]); constructor <;> intro hq <;> (try cases hq) <;> omega), Ext.rfl⟩
              | exact ⟨vb (by rw [nodeB_iff, node_cmp hw (by omega) (by omega)]; (try simp only [decide_eq_true_eq]); constructor <;> intro hq <;> (try cases hq) <;> omega), Ext.rfl⟩
          · have h45' := dF h45;(iterate 5 refine L_gN rfl rfl h45 ?_);refine L_x (X_pickF (.bool _) rfl h45 rfl) ?_;refine L_m (.bool _) rfl ?_;(iterate 5 refine L_gN rfl rfl rfl ?_);refine L_x (X_pickF (.bool _) rfl rfl rfl) ?_;refine L_an (.bool _) rfl ?_;refine W_ret ?_;refine R_1 (.bool _) rfl rfl rfl ?_
            first
            | exact ⟨congrArg Value.bool (node_w (by omega)).symm, Ext.rfl⟩
            | exact ⟨vb (by rw [nodeB_iff, node_not hw (by omega) (by omega), wide1]), Ext.rfl⟩
            | exact ⟨vb (by rw [nodeB_iff, node_bin hw (by omega) (by omega), wide2]), Ext.rfl⟩
            | exact ⟨vb (by rw [nodeB_iff, node_ite hw (by omega) (by omega), wide3]), Ext.rfl⟩
            | exact ⟨congrArg Value.bool (node_op (by omega)).symm, Ext.rfl⟩
            | exact ⟨congrArg Value.bool (node_n (by omega) (by omega) (by omega) (by omega)).symm, Ext.rfl⟩
            | exact ⟨vb (by rw [nodeB_iff, node_const hw (by omega)]; (try simp only [decide_eq_true_eq]); constructor <;> intro hq <;> (try cases hq) <;> omega), Ext.rfl⟩
            | exact ⟨vb (by rw [nodeB_iff, node_cell hw (by omega)]; (try simp only [decide_eq_true_eq]); constructor <;> intro hq <;> (try cases hq) <;> omega), Ext.rfl⟩
            | exact ⟨vb (by rw [nodeB_iff, node_cmp hw (by omega) (by omega)]; (try simp only [decide_eq_true_eq]); constructor <;> intro hq <;> (try cases hq) <;> omega), Ext.rfl⟩
        · have ho2' := dF ho2;refine W_region ?_;refine L_x (X_eq (k := .i64) rfl rfl) ?_;refine L_an (.bool _) rfl ?_;refine W_cond rfl (fun ho3 => ?_) (fun ho3 => ?_)
          · have ho3' := dT ho3;refine W_sr ?_;refine L_m (.pointer _) rfl ?_;refine L_x (X_nilCheck rfl) ?_;refine L_x (X_fieldAddr Tryz.underlying26 rfl Tryz.sizeOf24 (by decide) rfl (o + 3) rfl) ?_;refine L_x (X_load Tryz.isAgg24 rfl ((hc.ext Ext.rfl) 3 _ rfl)) ?_;refine L_x (X_len (xs := []) Tryz.underlying24 rfl) ?_;refine L_x (X_eq (k := .i64) rfl rfl) ?_;refine L_m (.bool _) rfl ?_;refine WL_split (d := 56) rfl (fun h51 => ?_) (fun h51 => ?_)
            · have h51' := dT h51;refine L_y rfl rfl h51 (X_move (.pointer _) rfl) ?_;refine L_y rfl rfl h51 (X_nilCheck rfl) ?_;refine L_y rfl rfl h51 (X_fieldAddr Tryz.underlying26 rfl Tryz.sizeOf3 (by decide) rfl (o + 2) rfl) ?_;refine L_y rfl rfl h51 (X_load Tryz.isAgg3 rfl ((hc.ext Ext.rfl) 2 _ rfl)) ?_;refine L_y rfl rfl h51 (X_ge (k := .i64) rfl rfl) ?_;refine L_x (X_pickT (.bool _) rfl h51 rfl) ?_;refine L_m (.bool _) rfl ?_;refine WL_split (d := 63) rfl (fun h53 => ?_) (fun h53 => ?_)
              · have h53' := dT h53;refine L_y rfl rfl h53 (X_move (.pointer _) rfl) ?_;refine L_y rfl rfl h53 (X_nilCheck rfl) ?_;refine L_y rfl rfl h53 (X_fieldAddr Tryz.underlying26 rfl Tryz.sizeOf3 (by decide) rfl (o + 2) rfl) ?_;refine L_y rfl rfl h53 (X_load Tryz.isAgg3 rfl ((hc.ext Ext.rfl) 2 _ rfl)) ?_;refine L_y rfl rfl h53 (X_lt (k := .i64) rfl rfl) ?_;refine L_x (X_pickT (.bool _) rfl h53 rfl) ?_;refine L_an (.bool _) rfl ?_;refine W_ret ?_;refine R_1 (.bool _) rfl rfl rfl ?_
                first
                | exact ⟨congrArg Value.bool (node_w (by omega)).symm, Ext.rfl⟩
                | exact ⟨vb (by rw [nodeB_iff, node_not hw (by omega) (by omega), wide1]), Ext.rfl⟩
                | exact ⟨vb (by rw [nodeB_iff, node_bin hw (by omega) (by omega), wide2]), Ext.rfl⟩
                | exact ⟨vb (by rw [nodeB_iff, node_ite hw (by omega) (by omega), wide3]), Ext.rfl⟩
                | exact ⟨congrArg Value.bool (node_op (by omega)).symm, Ext.rfl⟩
                | exact ⟨congrArg Value.bool (node_n (by omega) (by omega) (by omega) (by omega)).symm, Ext.rfl⟩
                | exact ⟨vb (by rw [nodeB_iff, node_const hw (by omega)]; (try simp only [decide_eq_true_eq]); constructor <;> intro hq <;> (try cases hq) <;> omega), Ext.rfl⟩
                | exact ⟨vb (by rw [nodeB_iff, node_cell hw (by omega)]; (try simp only [decide_eq_true_eq]); constructor <;> intro hq <;> (try cases hq) <;> omega), Ext.rfl⟩
                | exact ⟨vb (by rw [nodeB_iff, node_cmp hw (by omega) (by omega)]; (try simp only [decide_eq_true_eq]); constructor <;> intro hq <;> (try cases hq) <;> omega), Ext.rfl⟩
              · have h53' := dF h53;(iterate 5 refine L_gN rfl rfl h53 ?_);refine L_x (X_pickF (.bool _) rfl h53 rfl) ?_;refine L_an (.bool _) rfl ?_;refine W_ret ?_;refine R_1 (.bool _) rfl rfl rfl ?_
                first
                | exact ⟨congrArg Value.bool (node_w (by omega)).symm, Ext.rfl⟩
                | exact ⟨vb (by rw [nodeB_iff, node_not hw (by omega) (by omega), wide1]), Ext.rfl⟩
                | exact ⟨vb (by rw [nodeB_iff, node_bin hw (by omega) (by omega), wide2]), Ext.rfl⟩
                | exact ⟨vb (by rw [nodeB_iff, node_ite hw (by omega) (by omega), wide3]), Ext.rfl⟩
                | exact ⟨congrArg Value.bool (node_op (by omega)).symm, Ext.rfl⟩
                | exact ⟨congrArg Value.bool (node_n (by omega) (by omega) (by omega) (by omega)).symm, Ext.rfl⟩
                | exact ⟨vb (by rw [nodeB_iff, node_const hw (by omega)]; (try simp only [decide_eq_true_eq]); constructor <;> intro hq <;> (try cases hq) <;> omega), Ext.rfl⟩
                | exact ⟨vb (by rw [nodeB_iff, node_cell hw (by omega)]; (try simp only [decide_eq_true_eq]); constructor <;> intro hq <;> (try cases hq) <;> omega), Ext.rfl⟩
                | exact ⟨vb (by rw [nodeB_iff, node_cmp hw (by omega) (by omega)]; (try simp only [decide_eq_true_eq]); constructor <;> intro hq <;> (try cases hq) <;> omega), Ext.rfl⟩
            · have h51' := dF h51;(iterate 5 refine L_gN rfl rfl h51 ?_);refine L_x (X_pickF (.bool _) rfl h51 rfl) ?_;refine L_m (.bool _) rfl ?_;(iterate 5 refine L_gN rfl rfl rfl ?_);refine L_x (X_pickF (.bool _) rfl rfl rfl) ?_;refine L_an (.bool _) rfl ?_;refine W_ret ?_;refine R_1 (.bool _) rfl rfl rfl ?_
              first
              | exact ⟨congrArg Value.bool (node_w (by omega)).symm, Ext.rfl⟩
              | exact ⟨vb (by rw [nodeB_iff, node_not hw (by omega) (by omega), wide1]), Ext.rfl⟩
              | exact ⟨vb (by rw [nodeB_iff, node_bin hw (by omega) (by omega), wide2]), Ext.rfl⟩
              | exact ⟨vb (by rw [nodeB_iff, node_ite hw (by omega) (by omega), wide3]), Ext.rfl⟩
              | exact ⟨congrArg Value.bool (node_op (by omega)).symm, Ext.rfl⟩
              | exact ⟨congrArg Value.bool (node_n (by omega) (by omega) (by omega) (by omega)).symm, Ext.rfl⟩
              | exact ⟨vb (by rw [nodeB_iff, node_const hw (by omega)]; (try simp only [decide_eq_true_eq]); constructor <;> intro hq <;> (try cases hq) <;> omega), Ext.rfl⟩
              | exact ⟨vb (by rw [nodeB_iff, node_cell hw (by omega)]; (try simp only [decide_eq_true_eq]); constructor <;> intro hq <;> (try cases hq) <;> omega), Ext.rfl⟩
              | exact ⟨vb (by rw [nodeB_iff, node_cmp hw (by omega) (by omega)]; (try simp only [decide_eq_true_eq]); constructor <;> intro hq <;> (try cases hq) <;> omega), Ext.rfl⟩
          · have ho3' := dF ho3;refine W_skip ?_;refine W_seq ?_;refine W_sr ?_;refine L_m (.pointer _) rfl ?_;refine L_x (X_nilCheck rfl) ?_;refine L_x (X_fieldAddr Tryz.underlying26 rfl Tryz.sizeOf3 (by decide) rfl (o + 2) rfl) ?_;refine L_x (X_load Tryz.isAgg3 rfl ((hc.ext Ext.rfl) 2 _ rfl)) ?_;refine L_xn (X_ne (k := .i64) rfl rfl) ?_;refine W_cond rfl (fun hn0 => ?_) (fun hn0 => ?_)
            · have hn0' := dT hn0;refine W_sr ?_;refine L_an (.bool _) rfl ?_;refine W_ret ?_;refine R_1 (.bool _) rfl rfl rfl ?_
              first
              | exact ⟨congrArg Value.bool (node_w (by omega)).symm, Ext.rfl⟩
              | exact ⟨vb (by rw [nodeB_iff, node_not hw (by omega) (by omega), wide1]), Ext.rfl⟩
              | exact ⟨vb (by rw [nodeB_iff, node_bin hw (by omega) (by omega), wide2]), Ext.rfl⟩
              | exact ⟨vb (by rw [nodeB_iff, node_ite hw (by omega) (by omega), wide3]), Ext.rfl⟩
              | exact ⟨congrArg Value.bool (node_op (by omega)).symm, Ext.rfl⟩
              | exact ⟨congrArg Value.bool (node_n (by omega) (by omega) (by omega) (by omega)).symm, Ext.rfl⟩
              | exact ⟨vb (by rw [nodeB_iff, node_const hw (by omega)]; (try simp only [decide_eq_true_eq]); constructor <;> intro hq <;> (try cases hq) <;> omega), Ext.rfl⟩
              | exact ⟨vb (by rw [nodeB_iff, node_cell hw (by omega)]; (try simp only [decide_eq_true_eq]); constructor <;> intro hq <;> (try cases hq) <;> omega), Ext.rfl⟩
              | exact ⟨vb (by rw [nodeB_iff, node_cmp hw (by omega) (by omega)]; (try simp only [decide_eq_true_eq]); constructor <;> intro hq <;> (try cases hq) <;> omega), Ext.rfl⟩
            · have hn0' := dF hn0;refine W_skip ?_;refine W_seq ?_;refine W_sr ?_;refine L_m (.pointer _) rfl ?_;refine L_x (X_nilCheck rfl) ?_;refine L_x (X_fieldAddr Tryz.underlying26 rfl Tryz.sizeOf3 (by decide) rfl o rfl) ?_;refine L_xn (X_load Tryz.isAgg3 rfl ((hc.ext Ext.rfl) 0 _ rfl)) ?_;refine W_block ?_;refine W_sr ?_;refine L_x (X_eq (k := .i64) rfl rfl) ?_;refine L_an (.bool _) rfl ?_;refine W_cond rfl (fun ho4 => ?_) (fun ho4 => ?_)
              · have ho4' := dT ho4;refine W_seq ?_;refine W_drawn 9 [(8, .rel (isMade w.heap.size 3 1 [.int .i64 e.w]))] (by kernel_rfl) (by kernel_rfl) ?_ ?_
                · intro jz φ hφ v w1 w2 hv hx;by_cases q8 : jz = 8
                  · subst q8; cases hφ; exact hv.ext hx
                  exact noRels (kds := []) rfl jz φ (by simpa [kdOf, beqF, q8] using hφ) v w1 w2 hv hx
                refine WS_w rfl (fun _ _ _ => X_move (.pointer _) rfl) ?_;refine WS_w rfl (fun _ _ _ => X_nilCheck rfl) ?_;refine WS_w rfl (fun _ _ _ => X_fieldAddr Tryz.underlying26 rfl Tryz.sizeOf24 (by decide) rfl (o + 3) rfl) ?_;refine WS_w rfl (fun _ x60 _ => X_load Tryz.isAgg24 rfl ((hc.ext (Ext.trans Ext.rfl x60)) 3 _ rfl)) ?_;refine WS_w rfl (fun _ _ _ => X_move (.pointer _) rfl) ?_;refine WS_w rfl (fun _ _ _ => X_nilCheck rfl) ?_;refine WS_w rfl (fun _ _ _ => X_fieldAddr Tryz.underlying26 rfl Tryz.sizeOf3 (by decide) rfl (o + 1) rfl) ?_;refine WS_w rfl (fun _ x64 _ => X_load Tryz.isAgg3 rfl ((hc.ext (Ext.trans Ext.rfl x64)) 1 _ rfl)) ?_;refine WS_o (WS_rel _ rfl ?_ ?_)
                · intro wx65 x65 Fx65;exact R_buildS Tryz.underlying23 Tryz.sizeOf3 Tryz.zeroValue3 (by decide) [_] ((made_list _ _).trans rfl) [.int .i64 e.w] rfl x65.size
                intro vx65;refine WS_nil ?_;intro w66 xw66 Fw66;obtain ⟨Fw66, Dw66⟩ := Fw66;have hE : Ext w w66 := xw66;obtain ⟨vx65b, rfl, vx65le, vx65B⟩ := Fw66 _ (.head _);have fvx65b : w.heap.size ≤ vx65b := (by omega);show WL _ _ _ _ _ [_, _] _ _ _;have hws := Blk.slI (l := [e.w]) vx65B (by simp);refine L_o (O_call Tryz.call112 rfl rfl (wide_calls e.ks [e.w] ka (some ⟨vx65b, 0, none⟩) kc 1 _ (hkk.extE hE) hws) ?_);intro vw67 w67 rw67;obtain ⟨rfl, xw67⟩ := rw67;have hE : Ext w w67 := hE.trans xw67;have vx65B := vx65B.ext xw67;refine L_an (.bool _) rfl ?_;refine W_ret ?_;refine R_1 (.bool _) rfl rfl rfl ?_
                first
                | exact ⟨congrArg Value.bool (node_w (by omega)).symm, hE⟩
                | exact ⟨vb (by rw [nodeB_iff, node_not hw (by omega) (by omega), wide1]), hE⟩
                | exact ⟨vb (by rw [nodeB_iff, node_bin hw (by omega) (by omega), wide2]), hE⟩
                | exact ⟨vb (by rw [nodeB_iff, node_ite hw (by omega) (by omega), wide3]), hE⟩
                | exact ⟨congrArg Value.bool (node_op (by omega)).symm, hE⟩
                | exact ⟨congrArg Value.bool (node_n (by omega) (by omega) (by omega) (by omega)).symm, hE⟩
                | exact ⟨vb (by rw [nodeB_iff, node_const hw (by omega)]; (try simp only [decide_eq_true_eq]); constructor <;> intro hq <;> (try cases hq) <;> omega), hE⟩
                | exact ⟨vb (by rw [nodeB_iff, node_cell hw (by omega)]; (try simp only [decide_eq_true_eq]); constructor <;> intro hq <;> (try cases hq) <;> omega), hE⟩
                | exact ⟨vb (by rw [nodeB_iff, node_cmp hw (by omega) (by omega)]; (try simp only [decide_eq_true_eq]); constructor <;> intro hq <;> (try cases hq) <;> omega), hE⟩
              · have ho4' := dF ho4;refine W_seq ?_;refine W_sr ?_;refine L_x (X_eq (k := .i64) rfl rfl) ?_;refine L_an (.bool _) rfl ?_;refine W_cond rfl (fun ho5 => ?_) (fun ho5 => ?_)
                · have ho5' := dT ho5;refine W_skip ?_;refine W_condT rfl ho5 ?_;refine W_seq ?_;refine W_drawn 13 [(12, .rel (isMade w.heap.size 3 2 [.int .i64 e.w, .int .i64 e.w]))] (by kernel_rfl) (by kernel_rfl) ?_ ?_
                  · intro jz φ hφ v w1 w2 hv hx;by_cases q12 : jz = 12
                    · subst q12; cases hφ; exact hv.ext hx
                    exact noRels (kds := []) rfl jz φ (by simpa [kdOf, beqF, q12] using hφ) v w1 w2 hv hx
                  refine WS_w rfl (fun _ _ _ => X_move (.pointer _) rfl) ?_;refine WS_w rfl (fun _ _ _ => X_nilCheck rfl) ?_;refine WS_w rfl (fun _ _ _ => X_fieldAddr Tryz.underlying26 rfl Tryz.sizeOf24 (by decide) rfl (o + 3) rfl) ?_;refine WS_w rfl (fun _ x72 _ => X_load Tryz.isAgg24 rfl ((hc.ext (Ext.trans Ext.rfl x72)) 3 _ rfl)) ?_;refine WS_w rfl (fun _ _ _ => X_move (.pointer _) rfl) ?_;refine WS_w rfl (fun _ _ _ => X_nilCheck rfl) ?_;refine WS_w rfl (fun _ _ _ => X_fieldAddr Tryz.underlying26 rfl Tryz.sizeOf3 (by decide) rfl (o + 1) rfl) ?_;refine WS_w rfl (fun _ x76 _ => X_load Tryz.isAgg3 rfl ((hc.ext (Ext.trans Ext.rfl x76)) 1 _ rfl)) ?_;refine WS_w rfl (fun _ _ _ => X_move (.pointer _) rfl) ?_;refine WS_w rfl (fun _ _ _ => X_nilCheck rfl) ?_;refine WS_w rfl (fun _ _ _ => X_fieldAddr Tryz.underlying26 rfl Tryz.sizeOf3 (by decide) rfl (o + 1) rfl) ?_;refine WS_w rfl (fun _ x80 _ => X_load Tryz.isAgg3 rfl ((hc.ext (Ext.trans Ext.rfl x80)) 1 _ rfl)) ?_;refine WS_o (WS_rel _ rfl ?_ ?_)
                  · intro wx81 x81 Fx81;exact R_buildS Tryz.underlying23 Tryz.sizeOf3 Tryz.zeroValue3 (by decide) [_, _] ((made_list _ _).trans rfl) [.int .i64 e.w, .int .i64 e.w] rfl x81.size
                  intro vx81;refine WS_nil ?_;intro w82 xw82 Fw82;obtain ⟨Fw82, Dw82⟩ := Fw82;have hE : Ext w w82 := xw82;obtain ⟨vx81b, rfl, vx81le, vx81B⟩ := Fw82 _ (.head _);have fvx81b : w.heap.size ≤ vx81b := (by omega);show WL _ _ _ _ _ [_, _] _ _ _;have hws := Blk.slI (l := [e.w, e.w]) vx81B (by simp);refine L_o (O_call Tryz.call112 rfl rfl (wide_calls e.ks [e.w, e.w] ka (some ⟨vx81b, 0, none⟩) kc 2 _ (hkk.extE hE) hws) ?_);intro vw83 w83 rw83;obtain ⟨rfl, xw83⟩ := rw83;have hE : Ext w w83 := hE.trans xw83;have vx81B := vx81B.ext xw83;refine L_an (.bool _) rfl ?_;refine W_ret ?_;refine R_1 (.bool _) rfl rfl rfl ?_
                  first
                  | exact ⟨congrArg Value.bool (node_w (by omega)).symm, hE⟩
                  | exact ⟨vb (by rw [nodeB_iff, node_not hw (by omega) (by omega), wide1]), hE⟩
                  | exact ⟨vb (by rw [nodeB_iff, node_bin hw (by omega) (by omega), wide2]), hE⟩
                  | exact ⟨vb (by rw [nodeB_iff, node_ite hw (by omega) (by omega), wide3]), hE⟩
                  | exact ⟨congrArg Value.bool (node_op (by omega)).symm, hE⟩
                  | exact ⟨congrArg Value.bool (node_n (by omega) (by omega) (by omega) (by omega)).symm, hE⟩
                  | exact ⟨vb (by rw [nodeB_iff, node_const hw (by omega)]; (try simp only [decide_eq_true_eq]); constructor <;> intro hq <;> (try cases hq) <;> omega), hE⟩
                  | exact ⟨vb (by rw [nodeB_iff, node_cell hw (by omega)]; (try simp only [decide_eq_true_eq]); constructor <;> intro hq <;> (try cases hq) <;> omega), hE⟩
                  | exact ⟨vb (by rw [nodeB_iff, node_cmp hw (by omega) (by omega)]; (try simp only [decide_eq_true_eq]); constructor <;> intro hq <;> (try cases hq) <;> omega), hE⟩
                · have ho5' := dF ho5;refine W_sr ?_;refine L_x (X_eq (k := .i64) rfl rfl) ?_;refine L_an (.bool _) rfl ?_;refine W_cond rfl (fun ho5 => ?_) (fun ho5 => ?_)
                  · have ho5' := dT ho5;refine W_skip ?_;refine W_condT rfl ho5 ?_;refine W_seq ?_;refine W_drawn 13 [(12, .rel (isMade w.heap.size 3 2 [.int .i64 e.w, .int .i64 e.w]))] (by kernel_rfl) (by kernel_rfl) ?_ ?_
                    · intro jz φ hφ v w1 w2 hv hx;by_cases q12 : jz = 12
                      · subst q12; cases hφ; exact hv.ext hx
                      exact noRels (kds := []) rfl jz φ (by simpa [kdOf, beqF, q12] using hφ) v w1 w2 hv hx
                    refine WS_w rfl (fun _ _ _ => X_move (.pointer _) rfl) ?_;refine WS_w rfl (fun _ _ _ => X_nilCheck rfl) ?_;refine WS_w rfl (fun _ _ _ => X_fieldAddr Tryz.underlying26 rfl Tryz.sizeOf24 (by decide) rfl (o + 3) rfl) ?_;refine WS_w rfl (fun _ x88 _ => X_load Tryz.isAgg24 rfl ((hc.ext (Ext.trans Ext.rfl x88)) 3 _ rfl)) ?_;refine WS_w rfl (fun _ _ _ => X_move (.pointer _) rfl) ?_;refine WS_w rfl (fun _ _ _ => X_nilCheck rfl) ?_;refine WS_w rfl (fun _ _ _ => X_fieldAddr Tryz.underlying26 rfl Tryz.sizeOf3 (by decide) rfl (o + 1) rfl) ?_;refine WS_w rfl (fun _ x92 _ => X_load Tryz.isAgg3 rfl ((hc.ext (Ext.trans Ext.rfl x92)) 1 _ rfl)) ?_;refine WS_w rfl (fun _ _ _ => X_move (.pointer _) rfl) ?_;refine WS_w rfl (fun _ _ _ => X_nilCheck rfl) ?_;refine WS_w rfl (fun _ _ _ => X_fieldAddr Tryz.underlying26 rfl Tryz.sizeOf3 (by decide) rfl (o + 1) rfl) ?_;refine WS_w rfl (fun _ x96 _ => X_load Tryz.isAgg3 rfl ((hc.ext (Ext.trans Ext.rfl x96)) 1 _ rfl)) ?_;refine WS_o (WS_rel _ rfl ?_ ?_)
                    · intro wx97 x97 Fx97;exact R_buildS Tryz.underlying23 Tryz.sizeOf3 Tryz.zeroValue3 (by decide) [_, _] ((made_list _ _).trans rfl) [.int .i64 e.w, .int .i64 e.w] rfl x97.size
                    intro vx97;refine WS_nil ?_;intro w98 xw98 Fw98;obtain ⟨Fw98, Dw98⟩ := Fw98;have hE : Ext w w98 := xw98;obtain ⟨vx97b, rfl, vx97le, vx97B⟩ := Fw98 _ (.head _);have fvx97b : w.heap.size ≤ vx97b := (by omega);show WL _ _ _ _ _ [_, _] _ _ _;have hws := Blk.slI (l := [e.w, e.w]) vx97B (by simp);refine L_o (O_call Tryz.call112 rfl rfl (wide_calls e.ks [e.w, e.w] ka (some ⟨vx97b, 0, none⟩) kc 2 _ (hkk.extE hE) hws) ?_);intro vw99 w99 rw99;obtain ⟨rfl, xw99⟩ := rw99;have hE : Ext w w99 := hE.trans xw99;have vx97B := vx97B.ext xw99;refine L_an (.bool _) rfl ?_;refine W_ret ?_;refine R_1 (.bool _) rfl rfl rfl ?_
                    first
                    | exact ⟨congrArg Value.bool (node_w (by omega)).symm, hE⟩
                    | exact ⟨vb (by rw [nodeB_iff, node_not hw (by omega) (by omega), wide1]), hE⟩
                    | exact ⟨vb (by rw [nodeB_iff, node_bin hw (by omega) (by omega), wide2]), hE⟩
                    | exact ⟨vb (by rw [nodeB_iff, node_ite hw (by omega) (by omega), wide3]), hE⟩
                    | exact ⟨congrArg Value.bool (node_op (by omega)).symm, hE⟩
                    | exact ⟨congrArg Value.bool (node_n (by omega) (by omega) (by omega) (by omega)).symm, hE⟩
                    | exact ⟨vb (by rw [nodeB_iff, node_const hw (by omega)]; (try simp only [decide_eq_true_eq]); constructor <;> intro hq <;> (try cases hq) <;> omega), hE⟩
                    | exact ⟨vb (by rw [nodeB_iff, node_cell hw (by omega)]; (try simp only [decide_eq_true_eq]); constructor <;> intro hq <;> (try cases hq) <;> omega), hE⟩
                    | exact ⟨vb (by rw [nodeB_iff, node_cmp hw (by omega) (by omega)]; (try simp only [decide_eq_true_eq]); constructor <;> intro hq <;> (try cases hq) <;> omega), hE⟩
                  · have ho5' := dF ho5;refine W_sr ?_;refine L_x (X_eq (k := .i64) rfl rfl) ?_;refine L_an (.bool _) rfl ?_;refine W_cond rfl (fun ho5 => ?_) (fun ho5 => ?_)
                    · have ho5' := dT ho5;refine W_skip ?_;refine W_condT rfl ho5 ?_;refine W_seq ?_;refine W_drawn 13 [(12, .rel (isMade w.heap.size 3 2 [.int .i64 e.w, .int .i64 e.w]))] (by kernel_rfl) (by kernel_rfl) ?_ ?_
                      · intro jz φ hφ v w1 w2 hv hx;by_cases q12 : jz = 12
                        · subst q12; cases hφ; exact hv.ext hx
                        exact noRels (kds := []) rfl jz φ (by simpa [kdOf, beqF, q12] using hφ) v w1 w2 hv hx
                      refine WS_w rfl (fun _ _ _ => X_move (.pointer _) rfl) ?_;refine WS_w rfl (fun _ _ _ => X_nilCheck rfl) ?_;refine WS_w rfl (fun _ _ _ => X_fieldAddr Tryz.underlying26 rfl Tryz.sizeOf24 (by decide) rfl (o + 3) rfl) ?_;refine WS_w rfl (fun _ x104 _ => X_load Tryz.isAgg24 rfl ((hc.ext (Ext.trans Ext.rfl x104)) 3 _ rfl)) ?_;refine WS_w rfl (fun _ _ _ => X_move (.pointer _) rfl) ?_;refine WS_w rfl (fun _ _ _ => X_nilCheck rfl) ?_;refine WS_w rfl (fun _ _ _ => X_fieldAddr Tryz.underlying26 rfl Tryz.sizeOf3 (by decide) rfl (o + 1) rfl) ?_;refine WS_w rfl (fun _ x108 _ => X_load Tryz.isAgg3 rfl ((hc.ext (Ext.trans Ext.rfl x108)) 1 _ rfl)) ?_;refine WS_w rfl (fun _ _ _ => X_move (.pointer _) rfl) ?_;refine WS_w rfl (fun _ _ _ => X_nilCheck rfl) ?_;refine WS_w rfl (fun _ _ _ => X_fieldAddr Tryz.underlying26 rfl Tryz.sizeOf3 (by decide) rfl (o + 1) rfl) ?_;refine WS_w rfl (fun _ x112 _ => X_load Tryz.isAgg3 rfl ((hc.ext (Ext.trans Ext.rfl x112)) 1 _ rfl)) ?_;refine WS_o (WS_rel _ rfl ?_ ?_)
                      · intro wx113 x113 Fx113;exact R_buildS Tryz.underlying23 Tryz.sizeOf3 Tryz.zeroValue3 (by decide) [_, _] ((made_list _ _).trans rfl) [.int .i64 e.w, .int .i64 e.w] rfl x113.size
                      intro vx113;refine WS_nil ?_;intro w114 xw114 Fw114;obtain ⟨Fw114, Dw114⟩ := Fw114;have hE : Ext w w114 := xw114;obtain ⟨vx113b, rfl, vx113le, vx113B⟩ := Fw114 _ (.head _);have fvx113b : w.heap.size ≤ vx113b := (by omega);show WL _ _ _ _ _ [_, _] _ _ _;have hws := Blk.slI (l := [e.w, e.w]) vx113B (by simp);refine L_o (O_call Tryz.call112 rfl rfl (wide_calls e.ks [e.w, e.w] ka (some ⟨vx113b, 0, none⟩) kc 2 _ (hkk.extE hE) hws) ?_);intro vw115 w115 rw115;obtain ⟨rfl, xw115⟩ := rw115;have hE : Ext w w115 := hE.trans xw115;have vx113B := vx113B.ext xw115;refine L_an (.bool _) rfl ?_;refine W_ret ?_;refine R_1 (.bool _) rfl rfl rfl ?_
                      first
                      | exact ⟨congrArg Value.bool (node_w (by omega)).symm, hE⟩
                      | exact ⟨vb (by rw [nodeB_iff, node_not hw (by omega) (by omega), wide1]), hE⟩
                      | exact ⟨vb (by rw [nodeB_iff, node_bin hw (by omega) (by omega), wide2]), hE⟩
                      | exact ⟨vb (by rw [nodeB_iff, node_ite hw (by omega) (by omega), wide3]), hE⟩
                      | exact ⟨congrArg Value.bool (node_op (by omega)).symm, hE⟩
                      | exact ⟨congrArg Value.bool (node_n (by omega) (by omega) (by omega) (by omega)).symm, hE⟩
                      | exact ⟨vb (by rw [nodeB_iff, node_const hw (by omega)]; (try simp only [decide_eq_true_eq]); constructor <;> intro hq <;> (try cases hq) <;> omega), hE⟩
                      | exact ⟨vb (by rw [nodeB_iff, node_cell hw (by omega)]; (try simp only [decide_eq_true_eq]); constructor <;> intro hq <;> (try cases hq) <;> omega), hE⟩
                      | exact ⟨vb (by rw [nodeB_iff, node_cmp hw (by omega) (by omega)]; (try simp only [decide_eq_true_eq]); constructor <;> intro hq <;> (try cases hq) <;> omega), hE⟩
                    · have ho5' := dF ho5;refine W_sr ?_;refine L_x (X_eq (k := .i64) rfl rfl) ?_;refine L_an (.bool _) rfl ?_;refine W_cond rfl (fun ho5 => ?_) (fun ho5 => ?_)
                      · have ho5' := dT ho5;refine W_skip ?_;refine W_condT rfl ho5 ?_;refine W_seq ?_;refine W_drawn 13 [(12, .rel (isMade w.heap.size 3 2 [.int .i64 e.w, .int .i64 e.w]))] (by kernel_rfl) (by kernel_rfl) ?_ ?_
                        · intro jz φ hφ v w1 w2 hv hx;by_cases q12 : jz = 12
                          · subst q12; cases hφ; exact hv.ext hx
                          exact noRels (kds := []) rfl jz φ (by simpa [kdOf, beqF, q12] using hφ) v w1 w2 hv hx
                        refine WS_w rfl (fun _ _ _ => X_move (.pointer _) rfl) ?_;refine WS_w rfl (fun _ _ _ => X_nilCheck rfl) ?_;refine WS_w rfl (fun _ _ _ => X_fieldAddr Tryz.underlying26 rfl Tryz.sizeOf24 (by decide) rfl (o + 3) rfl) ?_;refine WS_w rfl (fun _ x120 _ => X_load Tryz.isAgg24 rfl ((hc.ext (Ext.trans Ext.rfl x120)) 3 _ rfl)) ?_;refine WS_w rfl (fun _ _ _ => X_move (.pointer _) rfl) ?_;refine WS_w rfl (fun _ _ _ => X_nilCheck rfl) ?_;refine WS_w rfl (fun _ _ _ => X_fieldAddr Tryz.underlying26 rfl Tryz.sizeOf3 (by decide) rfl (o + 1) rfl) ?_;refine WS_w rfl (fun _ x124 _ => X_load Tryz.isAgg3 rfl ((hc.ext (Ext.trans Ext.rfl x124)) 1 _ rfl)) ?_;refine WS_w rfl (fun _ _ _ => X_move (.pointer _) rfl) ?_;refine WS_w rfl (fun _ _ _ => X_nilCheck rfl) ?_;refine WS_w rfl (fun _ _ _ => X_fieldAddr Tryz.underlying26 rfl Tryz.sizeOf3 (by decide) rfl (o + 1) rfl) ?_;refine WS_w rfl (fun _ x128 _ => X_load Tryz.isAgg3 rfl ((hc.ext (Ext.trans Ext.rfl x128)) 1 _ rfl)) ?_;refine WS_o (WS_rel _ rfl ?_ ?_)
                        · intro wx129 x129 Fx129;exact R_buildS Tryz.underlying23 Tryz.sizeOf3 Tryz.zeroValue3 (by decide) [_, _] ((made_list _ _).trans rfl) [.int .i64 e.w, .int .i64 e.w] rfl x129.size
                        intro vx129;refine WS_nil ?_;intro w130 xw130 Fw130;obtain ⟨Fw130, Dw130⟩ := Fw130;have hE : Ext w w130 := xw130;obtain ⟨vx129b, rfl, vx129le, vx129B⟩ := Fw130 _ (.head _);have fvx129b : w.heap.size ≤ vx129b := (by omega);show WL _ _ _ _ _ [_, _] _ _ _;have hws := Blk.slI (l := [e.w, e.w]) vx129B (by simp);refine L_o (O_call Tryz.call112 rfl rfl (wide_calls e.ks [e.w, e.w] ka (some ⟨vx129b, 0, none⟩) kc 2 _ (hkk.extE hE) hws) ?_);intro vw131 w131 rw131;obtain ⟨rfl, xw131⟩ := rw131;have hE : Ext w w131 := hE.trans xw131;have vx129B := vx129B.ext xw131;refine L_an (.bool _) rfl ?_;refine W_ret ?_;refine R_1 (.bool _) rfl rfl rfl ?_
                        first
                        | exact ⟨congrArg Value.bool (node_w (by omega)).symm, hE⟩
                        | exact ⟨vb (by rw [nodeB_iff, node_not hw (by omega) (by omega), wide1]), hE⟩
                        | exact ⟨vb (by rw [nodeB_iff, node_bin hw (by omega) (by omega), wide2]), hE⟩
                        | exact ⟨vb (by rw [nodeB_iff, node_ite hw (by omega) (by omega), wide3]), hE⟩
                        | exact ⟨congrArg Value.bool (node_op (by omega)).symm, hE⟩
                        | exact ⟨congrArg Value.bool (node_n (by omega) (by omega) (by omega) (by omega)).symm, hE⟩
                        | exact ⟨vb (by rw [nodeB_iff, node_const hw (by omega)]; (try simp only [decide_eq_true_eq]); constructor <;> intro hq <;> (try cases hq) <;> omega), hE⟩
                        | exact ⟨vb (by rw [nodeB_iff, node_cell hw (by omega)]; (try simp only [decide_eq_true_eq]); constructor <;> intro hq <;> (try cases hq) <;> omega), hE⟩
                        | exact ⟨vb (by rw [nodeB_iff, node_cmp hw (by omega) (by omega)]; (try simp only [decide_eq_true_eq]); constructor <;> intro hq <;> (try cases hq) <;> omega), hE⟩
                      · have ho5' := dF ho5;refine W_sr ?_;refine L_x (X_eq (k := .i64) rfl rfl) ?_;refine L_an (.bool _) rfl ?_;refine W_cond rfl (fun ho5 => ?_) (fun ho5 => ?_)
                        · have ho5' := dT ho5;refine W_skip ?_;refine W_condT rfl ho5 ?_;refine W_seq ?_;refine W_drawn 13 [(12, .rel (isMade w.heap.size 3 2 [.int .i64 e.w, .int .i64 e.w]))] (by kernel_rfl) (by kernel_rfl) ?_ ?_
                          · intro jz φ hφ v w1 w2 hv hx;by_cases q12 : jz = 12
                            · subst q12; cases hφ; exact hv.ext hx
                            exact noRels (kds := []) rfl jz φ (by simpa [kdOf, beqF, q12] using hφ) v w1 w2 hv hx
                          refine WS_w rfl (fun _ _ _ => X_move (.pointer _) rfl) ?_;refine WS_w rfl (fun _ _ _ => X_nilCheck rfl) ?_;refine WS_w rfl (fun _ _ _ => X_fieldAddr Tryz.underlying26 rfl Tryz.sizeOf24 (by decide) rfl (o + 3) rfl) ?_;refine WS_w rfl (fun _ x136 _ => X_load Tryz.isAgg24 rfl ((hc.ext (Ext.trans Ext.rfl x136)) 3 _ rfl)) ?_;refine WS_w rfl (fun _ _ _ => X_move (.pointer _) rfl) ?_;refine WS_w rfl (fun _ _ _ => X_nilCheck rfl) ?_;refine WS_w rfl (fun _ _ _ => X_fieldAddr Tryz.underlying26 rfl Tryz.sizeOf3 (by decide) rfl (o + 1) rfl) ?_;refine WS_w rfl (fun _ x140 _ => X_load Tryz.isAgg3 rfl ((hc.ext (Ext.trans Ext.rfl x140)) 1 _ rfl)) ?_;refine WS_w rfl (fun _ _ _ => X_move (.pointer _) rfl) ?_;refine WS_w rfl (fun _ _ _ => X_nilCheck rfl) ?_;refine WS_w rfl (fun _ _ _ => X_fieldAddr Tryz.underlying26 rfl Tryz.sizeOf3 (by decide) rfl (o + 1) rfl) ?_;refine WS_w rfl (fun _ x144 _ => X_load Tryz.isAgg3 rfl ((hc.ext (Ext.trans Ext.rfl x144)) 1 _ rfl)) ?_;refine WS_o (WS_rel _ rfl ?_ ?_)
                          · intro wx145 x145 Fx145;exact R_buildS Tryz.underlying23 Tryz.sizeOf3 Tryz.zeroValue3 (by decide) [_, _] ((made_list _ _).trans rfl) [.int .i64 e.w, .int .i64 e.w] rfl x145.size
                          intro vx145;refine WS_nil ?_;intro w146 xw146 Fw146;obtain ⟨Fw146, Dw146⟩ := Fw146;have hE : Ext w w146 := xw146;obtain ⟨vx145b, rfl, vx145le, vx145B⟩ := Fw146 _ (.head _);have fvx145b : w.heap.size ≤ vx145b := (by omega);show WL _ _ _ _ _ [_, _] _ _ _;have hws := Blk.slI (l := [e.w, e.w]) vx145B (by simp);refine L_o (O_call Tryz.call112 rfl rfl (wide_calls e.ks [e.w, e.w] ka (some ⟨vx145b, 0, none⟩) kc 2 _ (hkk.extE hE) hws) ?_);intro vw147 w147 rw147;obtain ⟨rfl, xw147⟩ := rw147;have hE : Ext w w147 := hE.trans xw147;have vx145B := vx145B.ext xw147;refine L_an (.bool _) rfl ?_;refine W_ret ?_;refine R_1 (.bool _) rfl rfl rfl ?_
                          first
                          | exact ⟨congrArg Value.bool (node_w (by omega)).symm, hE⟩
                          | exact ⟨vb (by rw [nodeB_iff, node_not hw (by omega) (by omega), wide1]), hE⟩
                          | exact ⟨vb (by rw [nodeB_iff, node_bin hw (by omega) (by omega), wide2]), hE⟩
                          | exact ⟨vb (by rw [nodeB_iff, node_ite hw (by omega) (by omega), wide3]), hE⟩
                          | exact ⟨congrArg Value.bool (node_op (by omega)).symm, hE⟩
                          | exact ⟨congrArg Value.bool (node_n (by omega) (by omega) (by omega) (by omega)).symm, hE⟩
                          | exact ⟨vb (by rw [nodeB_iff, node_const hw (by omega)]; (try simp only [decide_eq_true_eq]); constructor <;> intro hq <;> (try cases hq) <;> omega), hE⟩
                          | exact ⟨vb (by rw [nodeB_iff, node_cell hw (by omega)]; (try simp only [decide_eq_true_eq]); constructor <;> intro hq <;> (try cases hq) <;> omega), hE⟩
                          | exact ⟨vb (by rw [nodeB_iff, node_cmp hw (by omega) (by omega)]; (try simp only [decide_eq_true_eq]); constructor <;> intro hq <;> (try cases hq) <;> omega), hE⟩
                        · have ho5' := dF ho5;refine W_region ?_;refine L_x (X_eq (k := .i64) rfl rfl) ?_;refine L_an (.bool _) rfl ?_;refine W_cond rfl (fun ho5 => ?_) (fun ho5 => ?_)
                          · have ho5' := dT ho5;refine W_seq ?_;refine W_drawn 13 [(12, .rel (isMade w.heap.size 3 2 [.int .i64 e.w, .int .i64 e.w]))] (by kernel_rfl) (by kernel_rfl) ?_ ?_
                            · intro jz φ hφ v w1 w2 hv hx;by_cases q12 : jz = 12
                              · subst q12; cases hφ; exact hv.ext hx
                              exact noRels (kds := []) rfl jz φ (by simpa [kdOf, beqF, q12] using hφ) v w1 w2 hv hx
                            refine WS_w rfl (fun _ _ _ => X_move (.pointer _) rfl) ?_;refine WS_w rfl (fun _ _ _ => X_nilCheck rfl) ?_;refine WS_w rfl (fun _ _ _ => X_fieldAddr Tryz.underlying26 rfl Tryz.sizeOf24 (by decide) rfl (o + 3) rfl) ?_;refine WS_w rfl (fun _ x152 _ => X_load Tryz.isAgg24 rfl ((hc.ext (Ext.trans Ext.rfl x152)) 3 _ rfl)) ?_;refine WS_w rfl (fun _ _ _ => X_move (.pointer _) rfl) ?_;refine WS_w rfl (fun _ _ _ => X_nilCheck rfl) ?_;refine WS_w rfl (fun _ _ _ => X_fieldAddr Tryz.underlying26 rfl Tryz.sizeOf3 (by decide) rfl (o + 1) rfl) ?_;refine WS_w rfl (fun _ x156 _ => X_load Tryz.isAgg3 rfl ((hc.ext (Ext.trans Ext.rfl x156)) 1 _ rfl)) ?_;refine WS_w rfl (fun _ _ _ => X_move (.pointer _) rfl) ?_;refine WS_w rfl (fun _ _ _ => X_nilCheck rfl) ?_;refine WS_w rfl (fun _ _ _ => X_fieldAddr Tryz.underlying26 rfl Tryz.sizeOf3 (by decide) rfl (o + 1) rfl) ?_;refine WS_w rfl (fun _ x160 _ => X_load Tryz.isAgg3 rfl ((hc.ext (Ext.trans Ext.rfl x160)) 1 _ rfl)) ?_;refine WS_o (WS_rel _ rfl ?_ ?_)
                            · intro wx161 x161 Fx161;exact R_buildS Tryz.underlying23 Tryz.sizeOf3 Tryz.zeroValue3 (by decide) [_, _] ((made_list _ _).trans rfl) [.int .i64 e.w, .int .i64 e.w] rfl x161.size
                            intro vx161;refine WS_nil ?_;intro w162 xw162 Fw162;obtain ⟨Fw162, Dw162⟩ := Fw162;have hE : Ext w w162 := xw162;obtain ⟨vx161b, rfl, vx161le, vx161B⟩ := Fw162 _ (.head _);have fvx161b : w.heap.size ≤ vx161b := (by omega);show WL _ _ _ _ _ [_, _] _ _ _;have hws := Blk.slI (l := [e.w, e.w]) vx161B (by simp);refine L_o (O_call Tryz.call112 rfl rfl (wide_calls e.ks [e.w, e.w] ka (some ⟨vx161b, 0, none⟩) kc 2 _ (hkk.extE hE) hws) ?_);intro vw163 w163 rw163;obtain ⟨rfl, xw163⟩ := rw163;have hE : Ext w w163 := hE.trans xw163;have vx161B := vx161B.ext xw163;refine L_an (.bool _) rfl ?_;refine W_ret ?_;refine R_1 (.bool _) rfl rfl rfl ?_
                            first
                            | exact ⟨congrArg Value.bool (node_w (by omega)).symm, hE⟩
                            | exact ⟨vb (by rw [nodeB_iff, node_not hw (by omega) (by omega), wide1]), hE⟩
                            | exact ⟨vb (by rw [nodeB_iff, node_bin hw (by omega) (by omega), wide2]), hE⟩
                            | exact ⟨vb (by rw [nodeB_iff, node_ite hw (by omega) (by omega), wide3]), hE⟩
                            | exact ⟨congrArg Value.bool (node_op (by omega)).symm, hE⟩
                            | exact ⟨congrArg Value.bool (node_n (by omega) (by omega) (by omega) (by omega)).symm, hE⟩
                            | exact ⟨vb (by rw [nodeB_iff, node_const hw (by omega)]; (try simp only [decide_eq_true_eq]); constructor <;> intro hq <;> (try cases hq) <;> omega), hE⟩
                            | exact ⟨vb (by rw [nodeB_iff, node_cell hw (by omega)]; (try simp only [decide_eq_true_eq]); constructor <;> intro hq <;> (try cases hq) <;> omega), hE⟩
                            | exact ⟨vb (by rw [nodeB_iff, node_cmp hw (by omega) (by omega)]; (try simp only [decide_eq_true_eq]); constructor <;> intro hq <;> (try cases hq) <;> omega), hE⟩
                          · have ho5' := dF ho5;refine W_seq ?_;refine W_sr ?_;refine L_x (X_eq (k := .i64) rfl rfl) ?_;refine L_an (.bool _) rfl ?_;refine W_cond rfl (fun ho6 => ?_) (fun ho6 => ?_)
                            · have ho6' := dT ho6;refine W_skip ?_;refine W_condT rfl ho6 ?_;refine W_seq ?_;refine W_drawn 30 [] (by kernel_rfl) (by kernel_rfl) (noRels rfl) ?_;refine WS_w rfl (fun _ _ _ => X_move (.pointer _) rfl) ?_;refine WS_w rfl (fun _ _ _ => X_nilCheck rfl) ?_;refine WS_w rfl (fun _ _ _ => X_fieldAddr Tryz.underlying26 rfl Tryz.sizeOf3 (by decide) rfl (o + 1) rfl) ?_;refine WS_w rfl (fun _ x168 _ => X_load Tryz.isAgg3 rfl ((hc.ext (Ext.trans Ext.rfl x168)) 1 _ rfl)) ?_;refine WS_w rfl (fun _ _ _ => X_eq (k := .i64) rfl rfl) ?_;refine WS_w rfl (fun _ _ _ => X_move (.bool _) rfl) ?_;refine WS_split (d := 121) rfl (fun h172 => ?_) (fun h172 => ?_)
                              · have h172' := dT h172;refine WS_y rfl rfl h172 rfl (fun _ _ _ => X_move (.pointer _) rfl) ?_;refine WS_y rfl rfl h172 rfl (fun _ _ _ => X_nilCheck rfl) ?_;refine WS_y rfl rfl h172 rfl (fun _ _ _ => X_fieldAddr Tryz.underlying26 rfl Tryz.sizeOf24 (by decide) rfl (o + 3) rfl) ?_;refine WS_y rfl rfl h172 rfl (fun _ x176 _ => X_load Tryz.isAgg24 rfl ((hc.ext (Ext.trans Ext.rfl x176)) 3 _ rfl)) ?_;refine WS_y rfl rfl h172 rfl (fun _ _ _ => X_len (xs := []) Tryz.underlying24 rfl) ?_;refine WS_y rfl rfl h172 rfl (fun _ _ _ => X_eq (k := .i64) rfl rfl) ?_;refine WS_w rfl (fun _ _ _ => X_pickT (.bool _) rfl h172 rfl) ?_;refine WS_w rfl (fun _ _ _ => X_move (.bool _) rfl) ?_;refine WS_split (d := 129) rfl (fun h182 => ?_) (fun h182 => ?_)
                                · have h182' := dT h182;refine WS_y rfl rfl h182 rfl (fun _ _ _ => X_move (.pointer _) rfl) ?_;refine WS_y rfl rfl h182 rfl (fun _ _ _ => X_nilCheck rfl) ?_;refine WS_y rfl rfl h182 rfl (fun _ _ _ => X_fieldAddr Tryz.underlying26 rfl Tryz.sizeOf24 (by decide) rfl (o + 3) rfl) ?_;refine WS_y rfl rfl h182 rfl (fun _ x186 _ => X_load Tryz.isAgg24 rfl ((hc.ext (Ext.trans Ext.rfl x186)) 3 _ rfl)) ?_;refine WS_y rfl rfl h182 rfl (fun _ x187 _ => X_ixS (0) Tryz.underlying24 Tryz.sizeOf26 rfl rfl ((hkk.extE (Ext.trans Ext.rfl x187)).ad 0 (by omega)) (by first | rfl | omega) (by omega)) ?_;refine WS_y rfl rfl h182 rfl (fun _ _ _ => X_fieldAddr Tryz.underlying26 rfl Tryz.sizeOf3 (by decide) rfl (of' ka + 0 * 4 + 1) rfl) ?_;refine WS_y rfl rfl h182 rfl (fun _ x189 _ => X_load Tryz.isAgg3 rfl ((hkk.extE (Ext.trans Ext.rfl x189)).getW 0 (by omega))) ?_;refine WS_y rfl rfl h182 rfl (fun _ _ _ => X_move (.pointer _) rfl) ?_;refine WS_y rfl rfl h182 rfl (fun _ _ _ => X_nilCheck rfl) ?_;refine WS_y rfl rfl h182 rfl (fun _ _ _ => X_fieldAddr Tryz.underlying26 rfl Tryz.sizeOf24 (by decide) rfl (o + 3) rfl) ?_;refine WS_y rfl rfl h182 rfl (fun _ x193 _ => X_load Tryz.isAgg24 rfl ((hc.ext (Ext.trans Ext.rfl x193)) 3 _ rfl)) ?_;refine WS_y rfl rfl h182 rfl (fun _ x194 _ => X_ixS (1) Tryz.underlying24 Tryz.sizeOf26 rfl rfl ((hkk.extE (Ext.trans Ext.rfl x194)).ad 1 (by omega)) (by first | rfl | omega) (by omega)) ?_;refine WS_y rfl rfl h182 rfl (fun _ _ _ => X_fieldAddr Tryz.underlying26 rfl Tryz.sizeOf3 (by decide) rfl (of' ka + 1 * 4 + 1) rfl) ?_;refine WS_y rfl rfl h182 rfl (fun _ x196 _ => X_load Tryz.isAgg3 rfl ((hkk.extE (Ext.trans Ext.rfl x196)).getW 1 (by omega))) ?_;refine WS_y rfl rfl h182 rfl (fun _ _ _ => X_eq (k := .i64) rfl rfl) ?_;refine WS_w rfl (fun _ _ _ => X_pickT (.bool _) rfl h182 rfl) ?_;refine WS_nil ?_;intro w200 xw200 Fw200;obtain ⟨Fw200, Dw200⟩ := Fw200;have hE : Ext w w200 := xw200;show WL _ _ _ _ _ [_] _ _ _;refine L_an (.bool _) rfl ?_;refine W_ret ?_;refine R_1 (.bool _) rfl rfl rfl ?_
                                  first
                                  | exact ⟨congrArg Value.bool (node_w (by omega)).symm, hE⟩
                                  | exact ⟨vb (by rw [nodeB_iff, node_not hw (by omega) (by omega), wide1]), hE⟩
                                  | exact ⟨vb (by rw [nodeB_iff, node_bin hw (by omega) (by omega), wide2]), hE⟩
                                  | exact ⟨vb (by rw [nodeB_iff, node_ite hw (by omega) (by omega), wide3]), hE⟩
                                  | exact ⟨congrArg Value.bool (node_op (by omega)).symm, hE⟩
                                  | exact ⟨congrArg Value.bool (node_n (by omega) (by omega) (by omega) (by omega)).symm, hE⟩
                                  | exact ⟨vb (by rw [nodeB_iff, node_const hw (by omega)]; (try simp only [decide_eq_true_eq]); constructor <;> intro hq <;> (try cases hq) <;> omega), hE⟩
                                  | exact ⟨vb (by rw [nodeB_iff, node_cell hw (by omega)]; (try simp only [decide_eq_true_eq]); constructor <;> intro hq <;> (try cases hq) <;> omega), hE⟩
                                  | exact ⟨vb (by rw [nodeB_iff, node_cmp hw (by omega) (by omega)]; (try simp only [decide_eq_true_eq]); constructor <;> intro hq <;> (try cases hq) <;> omega), hE⟩
                                · have h182' := dF h182;(iterate 15 refine WS_gN rfl rfl h182 ?_);refine WS_w rfl (fun _ _ _ => X_pickF (.bool _) rfl h182 rfl) ?_;refine WS_nil ?_;intro w202 xw202 Fw202;obtain ⟨Fw202, Dw202⟩ := Fw202;have hE : Ext w w202 := xw202;show WL _ _ _ _ _ [_] _ _ _;refine L_an (.bool _) rfl ?_;refine W_ret ?_;refine R_1 (.bool _) rfl rfl rfl ?_
                                  first
                                  | exact ⟨congrArg Value.bool (node_w (by omega)).symm, hE⟩
                                  | exact ⟨vb (by rw [nodeB_iff, node_not hw (by omega) (by omega), wide1]), hE⟩
                                  | exact ⟨vb (by rw [nodeB_iff, node_bin hw (by omega) (by omega), wide2]), hE⟩
                                  | exact ⟨vb (by rw [nodeB_iff, node_ite hw (by omega) (by omega), wide3]), hE⟩
                                  | exact ⟨congrArg Value.bool (node_op (by omega)).symm, hE⟩
                                  | exact ⟨congrArg Value.bool (node_n (by omega) (by omega) (by omega) (by omega)).symm, hE⟩
                                  | exact ⟨vb (by rw [nodeB_iff, node_const hw (by omega)]; (try simp only [decide_eq_true_eq]); constructor <;> intro hq <;> (try cases hq) <;> omega), hE⟩
                                  | exact ⟨vb (by rw [nodeB_iff, node_cell hw (by omega)]; (try simp only [decide_eq_true_eq]); constructor <;> intro hq <;> (try cases hq) <;> omega), hE⟩
                                  | exact ⟨vb (by rw [nodeB_iff, node_cmp hw (by omega) (by omega)]; (try simp only [decide_eq_true_eq]); constructor <;> intro hq <;> (try cases hq) <;> omega), hE⟩
                              · have h172' := dF h172;(iterate 6 refine WS_gN rfl rfl h172 ?_);refine WS_w rfl (fun _ _ _ => X_pickF (.bool _) rfl h172 rfl) ?_;refine WS_w rfl (fun _ _ _ => X_move (.bool _) rfl) ?_;(iterate 15 refine WS_gN rfl rfl rfl ?_);refine WS_w rfl (fun _ _ _ => X_pickF (.bool _) rfl rfl rfl) ?_;refine WS_nil ?_;intro w206 xw206 Fw206;obtain ⟨Fw206, Dw206⟩ := Fw206;have hE : Ext w w206 := xw206;show WL _ _ _ _ _ [_] _ _ _;refine L_an (.bool _) rfl ?_;refine W_ret ?_;refine R_1 (.bool _) rfl rfl rfl ?_
                                first
                                | exact ⟨congrArg Value.bool (node_w (by omega)).symm, hE⟩
                                | exact ⟨vb (by rw [nodeB_iff, node_not hw (by omega) (by omega), wide1]), hE⟩
                                | exact ⟨vb (by rw [nodeB_iff, node_bin hw (by omega) (by omega), wide2]), hE⟩
                                | exact ⟨vb (by rw [nodeB_iff, node_ite hw (by omega) (by omega), wide3]), hE⟩
                                | exact ⟨congrArg Value.bool (node_op (by omega)).symm, hE⟩
                                | exact ⟨congrArg Value.bool (node_n (by omega) (by omega) (by omega) (by omega)).symm, hE⟩
                                | exact ⟨vb (by rw [nodeB_iff, node_const hw (by omega)]; (try simp only [decide_eq_true_eq]); constructor <;> intro hq <;> (try cases hq) <;> omega), hE⟩
                                | exact ⟨vb (by rw [nodeB_iff, node_cell hw (by omega)]; (try simp only [decide_eq_true_eq]); constructor <;> intro hq <;> (try cases hq) <;> omega), hE⟩
                                | exact ⟨vb (by rw [nodeB_iff, node_cmp hw (by omega) (by omega)]; (try simp only [decide_eq_true_eq]); constructor <;> intro hq <;> (try cases hq) <;> omega), hE⟩
                            · have ho6' := dF ho6;refine W_sr ?_;refine L_x (X_eq (k := .i64) rfl rfl) ?_;refine L_an (.bool _) rfl ?_;refine W_cond rfl (fun ho6 => ?_) (fun ho6 => ?_)
                              · have ho6' := dT ho6;refine W_skip ?_;refine W_condT rfl ho6 ?_;refine W_seq ?_;refine W_drawn 30 [] (by kernel_rfl) (by kernel_rfl) (noRels rfl) ?_;refine WS_w rfl (fun _ _ _ => X_move (.pointer _) rfl) ?_;refine WS_w rfl (fun _ _ _ => X_nilCheck rfl) ?_;refine WS_w rfl (fun _ _ _ => X_fieldAddr Tryz.underlying26 rfl Tryz.sizeOf3 (by decide) rfl (o + 1) rfl) ?_;refine WS_w rfl (fun _ x211 _ => X_load Tryz.isAgg3 rfl ((hc.ext (Ext.trans Ext.rfl x211)) 1 _ rfl)) ?_;refine WS_w rfl (fun _ _ _ => X_eq (k := .i64) rfl rfl) ?_;refine WS_w rfl (fun _ _ _ => X_move (.bool _) rfl) ?_;refine WS_split (d := 121) rfl (fun h215 => ?_) (fun h215 => ?_)
                                · have h215' := dT h215;refine WS_y rfl rfl h215 rfl (fun _ _ _ => X_move (.pointer _) rfl) ?_;refine WS_y rfl rfl h215 rfl (fun _ _ _ => X_nilCheck rfl) ?_;refine WS_y rfl rfl h215 rfl (fun _ _ _ => X_fieldAddr Tryz.underlying26 rfl Tryz.sizeOf24 (by decide) rfl (o + 3) rfl) ?_;refine WS_y rfl rfl h215 rfl (fun _ x219 _ => X_load Tryz.isAgg24 rfl ((hc.ext (Ext.trans Ext.rfl x219)) 3 _ rfl)) ?_;refine WS_y rfl rfl h215 rfl (fun _ _ _ => X_len (xs := []) Tryz.underlying24 rfl) ?_;refine WS_y rfl rfl h215 rfl (fun _ _ _ => X_eq (k := .i64) rfl rfl) ?_;refine WS_w rfl (fun _ _ _ => X_pickT (.bool _) rfl h215 rfl) ?_;refine WS_w rfl (fun _ _ _ => X_move (.bool _) rfl) ?_;refine WS_split (d := 129) rfl (fun h225 => ?_) (fun h225 => ?_)
                                  · have h225' := dT h225;refine WS_y rfl rfl h225 rfl (fun _ _ _ => X_move (.pointer _) rfl) ?_;refine WS_y rfl rfl h225 rfl (fun _ _ _ => X_nilCheck rfl) ?_;refine WS_y rfl rfl h225 rfl (fun _ _ _ => X_fieldAddr Tryz.underlying26 rfl Tryz.sizeOf24 (by decide) rfl (o + 3) rfl) ?_;refine WS_y rfl rfl h225 rfl (fun _ x229 _ => X_load Tryz.isAgg24 rfl ((hc.ext (Ext.trans Ext.rfl x229)) 3 _ rfl)) ?_;refine WS_y rfl rfl h225 rfl (fun _ x230 _ => X_ixS (0) Tryz.underlying24 Tryz.sizeOf26 rfl rfl ((hkk.extE (Ext.trans Ext.rfl x230)).ad 0 (by omega)) (by first | rfl | omega) (by omega)) ?_;refine WS_y rfl rfl h225 rfl (fun _ _ _ => X_fieldAddr Tryz.underlying26 rfl Tryz.sizeOf3 (by decide) rfl (of' ka + 0 * 4 + 1) rfl) ?_;refine WS_y rfl rfl h225 rfl (fun _ x232 _ => X_load Tryz.isAgg3 rfl ((hkk.extE (Ext.trans Ext.rfl x232)).getW 0 (by omega))) ?_;refine WS_y rfl rfl h225 rfl (fun _ _ _ => X_move (.pointer _) rfl) ?_;refine WS_y rfl rfl h225 rfl (fun _ _ _ => X_nilCheck rfl) ?_;refine WS_y rfl rfl h225 rfl (fun _ _ _ => X_fieldAddr Tryz.underlying26 rfl Tryz.sizeOf24 (by decide) rfl (o + 3) rfl) ?_;refine WS_y rfl rfl h225 rfl (fun _ x236 _ => X_load Tryz.isAgg24 rfl ((hc.ext (Ext.trans Ext.rfl x236)) 3 _ rfl)) ?_;refine WS_y rfl rfl h225 rfl (fun _ x237 _ => X_ixS (1) Tryz.underlying24 Tryz.sizeOf26 rfl rfl ((hkk.extE (Ext.trans Ext.rfl x237)).ad 1 (by omega)) (by first | rfl | omega) (by omega)) ?_;refine WS_y rfl rfl h225 rfl (fun _ _ _ => X_fieldAddr Tryz.underlying26 rfl Tryz.sizeOf3 (by decide) rfl (of' ka + 1 * 4 + 1) rfl) ?_;refine WS_y rfl rfl h225 rfl (fun _ x239 _ => X_load Tryz.isAgg3 rfl ((hkk.extE (Ext.trans Ext.rfl x239)).getW 1 (by omega))) ?_;refine WS_y rfl rfl h225 rfl (fun _ _ _ => X_eq (k := .i64) rfl rfl) ?_;refine WS_w rfl (fun _ _ _ => X_pickT (.bool _) rfl h225 rfl) ?_;refine WS_nil ?_;intro w243 xw243 Fw243;obtain ⟨Fw243, Dw243⟩ := Fw243;have hE : Ext w w243 := xw243;show WL _ _ _ _ _ [_] _ _ _;refine L_an (.bool _) rfl ?_;refine W_ret ?_;refine R_1 (.bool _) rfl rfl rfl ?_
                                    first
                                    | exact ⟨congrArg Value.bool (node_w (by omega)).symm, hE⟩
                                    | exact ⟨vb (by rw [nodeB_iff, node_not hw (by omega) (by omega), wide1]), hE⟩
                                    | exact ⟨vb (by rw [nodeB_iff, node_bin hw (by omega) (by omega), wide2]), hE⟩
                                    | exact ⟨vb (by rw [nodeB_iff, node_ite hw (by omega) (by omega), wide3]), hE⟩
                                    | exact ⟨congrArg Value.bool (node_op (by omega)).symm, hE⟩
                                    | exact ⟨congrArg Value.bool (node_n (by omega) (by omega) (by omega) (by omega)).symm, hE⟩
                                    | exact ⟨vb (by rw [nodeB_iff, node_const hw (by omega)]; (try simp only [decide_eq_true_eq]); constructor <;> intro hq <;> (try cases hq) <;> omega), hE⟩
                                    | exact ⟨vb (by rw [nodeB_iff, node_cell hw (by omega)]; (try simp only [decide_eq_true_eq]); constructor <;> intro hq <;> (try cases hq) <;> omega), hE⟩
                                    | exact ⟨vb (by rw [nodeB_iff, node_cmp hw (by omega) (by omega)]; (try simp only [decide_eq_true_eq]); constructor <;> intro hq <;> (try cases hq) <;> omega), hE⟩
                                  · have h225' := dF h225;(iterate 15 refine WS_gN rfl rfl h225 ?_);refine WS_w rfl (fun _ _ _ => X_pickF (.bool _) rfl h225 rfl) ?_;refine WS_nil ?_;intro w245 xw245 Fw245;obtain ⟨Fw245, Dw245⟩ := Fw245;have hE : Ext w w245 := xw245;show WL _ _ _ _ _ [_] _ _ _;refine L_an (.bool _) rfl ?_;refine W_ret ?_;refine R_1 (.bool _) rfl rfl rfl ?_
                                    first
                                    | exact ⟨congrArg Value.bool (node_w (by omega)).symm, hE⟩
                                    | exact ⟨vb (by rw [nodeB_iff, node_not hw (by omega) (by omega), wide1]), hE⟩
                                    | exact ⟨vb (by rw [nodeB_iff, node_bin hw (by omega) (by omega), wide2]), hE⟩
                                    | exact ⟨vb (by rw [nodeB_iff, node_ite hw (by omega) (by omega), wide3]), hE⟩
                                    | exact ⟨congrArg Value.bool (node_op (by omega)).symm, hE⟩
                                    | exact ⟨congrArg Value.bool (node_n (by omega) (by omega) (by omega) (by omega)).symm, hE⟩
                                    | exact ⟨vb (by rw [nodeB_iff, node_const hw (by omega)]; (try simp only [decide_eq_true_eq]); constructor <;> intro hq <;> (try cases hq) <;> omega), hE⟩
                                    | exact ⟨vb (by rw [nodeB_iff, node_cell hw (by omega)]; (try simp only [decide_eq_true_eq]); constructor <;> intro hq <;> (try cases hq) <;> omega), hE⟩
                                    | exact ⟨vb (by rw [nodeB_iff, node_cmp hw (by omega) (by omega)]; (try simp only [decide_eq_true_eq]); constructor <;> intro hq <;> (try cases hq) <;> omega), hE⟩
                                · have h215' := dF h215;(iterate 6 refine WS_gN rfl rfl h215 ?_);refine WS_w rfl (fun _ _ _ => X_pickF (.bool _) rfl h215 rfl) ?_;refine WS_w rfl (fun _ _ _ => X_move (.bool _) rfl) ?_;(iterate 15 refine WS_gN rfl rfl rfl ?_);refine WS_w rfl (fun _ _ _ => X_pickF (.bool _) rfl rfl rfl) ?_;refine WS_nil ?_;intro w249 xw249 Fw249;obtain ⟨Fw249, Dw249⟩ := Fw249;have hE : Ext w w249 := xw249;show WL _ _ _ _ _ [_] _ _ _;refine L_an (.bool _) rfl ?_;refine W_ret ?_;refine R_1 (.bool _) rfl rfl rfl ?_
                                  first
                                  | exact ⟨congrArg Value.bool (node_w (by omega)).symm, hE⟩
                                  | exact ⟨vb (by rw [nodeB_iff, node_not hw (by omega) (by omega), wide1]), hE⟩
                                  | exact ⟨vb (by rw [nodeB_iff, node_bin hw (by omega) (by omega), wide2]), hE⟩
                                  | exact ⟨vb (by rw [nodeB_iff, node_ite hw (by omega) (by omega), wide3]), hE⟩
                                  | exact ⟨congrArg Value.bool (node_op (by omega)).symm, hE⟩
                                  | exact ⟨congrArg Value.bool (node_n (by omega) (by omega) (by omega) (by omega)).symm, hE⟩
                                  | exact ⟨vb (by rw [nodeB_iff, node_const hw (by omega)]; (try simp only [decide_eq_true_eq]); constructor <;> intro hq <;> (try cases hq) <;> omega), hE⟩
                                  | exact ⟨vb (by rw [nodeB_iff, node_cell hw (by omega)]; (try simp only [decide_eq_true_eq]); constructor <;> intro hq <;> (try cases hq) <;> omega), hE⟩
                                  | exact ⟨vb (by rw [nodeB_iff, node_cmp hw (by omega) (by omega)]; (try simp only [decide_eq_true_eq]); constructor <;> intro hq <;> (try cases hq) <;> omega), hE⟩
                              · have ho6' := dF ho6;refine W_region ?_;refine L_x (X_eq (k := .i64) rfl rfl) ?_;refine L_an (.bool _) rfl ?_;refine W_cond rfl (fun ho6 => ?_) (fun ho6 => ?_)
                                · have ho6' := dT ho6;refine W_seq ?_;refine W_drawn 30 [] (by kernel_rfl) (by kernel_rfl) (noRels rfl) ?_;refine WS_w rfl (fun _ _ _ => X_move (.pointer _) rfl) ?_;refine WS_w rfl (fun _ _ _ => X_nilCheck rfl) ?_;refine WS_w rfl (fun _ _ _ => X_fieldAddr Tryz.underlying26 rfl Tryz.sizeOf3 (by decide) rfl (o + 1) rfl) ?_;refine WS_w rfl (fun _ x254 _ => X_load Tryz.isAgg3 rfl ((hc.ext (Ext.trans Ext.rfl x254)) 1 _ rfl)) ?_;refine WS_w rfl (fun _ _ _ => X_eq (k := .i64) rfl rfl) ?_;refine WS_w rfl (fun _ _ _ => X_move (.bool _) rfl) ?_;refine WS_split (d := 121) rfl (fun h258 => ?_) (fun h258 => ?_)
                                  · have h258' := dT h258;refine WS_y rfl rfl h258 rfl (fun _ _ _ => X_move (.pointer _) rfl) ?_;refine WS_y rfl rfl h258 rfl (fun _ _ _ => X_nilCheck rfl) ?_;refine WS_y rfl rfl h258 rfl (fun _ _ _ => X_fieldAddr Tryz.underlying26 rfl Tryz.sizeOf24 (by decide) rfl (o + 3) rfl) ?_;refine WS_y rfl rfl h258 rfl (fun _ x262 _ => X_load Tryz.isAgg24 rfl ((hc.ext (Ext.trans Ext.rfl x262)) 3 _ rfl)) ?_;refine WS_y rfl rfl h258 rfl (fun _ _ _ => X_len (xs := []) Tryz.underlying24 rfl) ?_;refine WS_y rfl rfl h258 rfl (fun _ _ _ => X_eq (k := .i64) rfl rfl) ?_;refine WS_w rfl (fun _ _ _ => X_pickT (.bool _) rfl h258 rfl) ?_;refine WS_w rfl (fun _ _ _ => X_move (.bool _) rfl) ?_;refine WS_split (d := 129) rfl (fun h268 => ?_) (fun h268 => ?_)
                                    · have h268' := dT h268;refine WS_y rfl rfl h268 rfl (fun _ _ _ => X_move (.pointer _) rfl) ?_;refine WS_y rfl rfl h268 rfl (fun _ _ _ => X_nilCheck rfl) ?_;refine WS_y rfl rfl h268 rfl (fun _ _ _ => X_fieldAddr Tryz.underlying26 rfl Tryz.sizeOf24 (by decide) rfl (o + 3) rfl) ?_;refine WS_y rfl rfl h268 rfl (fun _ x272 _ => X_load Tryz.isAgg24 rfl ((hc.ext (Ext.trans Ext.rfl x272)) 3 _ rfl)) ?_;refine WS_y rfl rfl h268 rfl (fun _ x273 _ => X_ixS (0) Tryz.underlying24 Tryz.sizeOf26 rfl rfl ((hkk.extE (Ext.trans Ext.rfl x273)).ad 0 (by omega)) (by first | rfl | omega) (by omega)) ?_;refine WS_y rfl rfl h268 rfl (fun _ _ _ => X_fieldAddr Tryz.underlying26 rfl Tryz.sizeOf3 (by decide) rfl (of' ka + 0 * 4 + 1) rfl) ?_;refine WS_y rfl rfl h268 rfl (fun _ x275 _ => X_load Tryz.isAgg3 rfl ((hkk.extE (Ext.trans Ext.rfl x275)).getW 0 (by omega))) ?_;refine WS_y rfl rfl h268 rfl (fun _ _ _ => X_move (.pointer _) rfl) ?_;refine WS_y rfl rfl h268 rfl (fun _ _ _ => X_nilCheck rfl) ?_;refine WS_y rfl rfl h268 rfl (fun _ _ _ => X_fieldAddr Tryz.underlying26 rfl Tryz.sizeOf24 (by decide) rfl (o + 3) rfl) ?_;refine WS_y rfl rfl h268 rfl (fun _ x279 _ => X_load Tryz.isAgg24 rfl ((hc.ext (Ext.trans Ext.rfl x279)) 3 _ rfl)) ?_;refine WS_y rfl rfl h268 rfl (fun _ x280 _ => X_ixS (1) Tryz.underlying24 Tryz.sizeOf26 rfl rfl ((hkk.extE (Ext.trans Ext.rfl x280)).ad 1 (by omega)) (by first | rfl | omega) (by omega)) ?_;refine WS_y rfl rfl h268 rfl (fun _ _ _ => X_fieldAddr Tryz.underlying26 rfl Tryz.sizeOf3 (by decide) rfl (of' ka + 1 * 4 + 1) rfl) ?_;refine WS_y rfl rfl h268 rfl (fun _ x282 _ => X_load Tryz.isAgg3 rfl ((hkk.extE (Ext.trans Ext.rfl x282)).getW 1 (by omega))) ?_;refine WS_y rfl rfl h268 rfl (fun _ _ _ => X_eq (k := .i64) rfl rfl) ?_;refine WS_w rfl (fun _ _ _ => X_pickT (.bool _) rfl h268 rfl) ?_;refine WS_nil ?_;intro w286 xw286 Fw286;obtain ⟨Fw286, Dw286⟩ := Fw286;have hE : Ext w w286 := xw286;show WL _ _ _ _ _ [_] _ _ _;refine L_an (.bool _) rfl ?_;refine W_ret ?_;refine R_1 (.bool _) rfl rfl rfl ?_
                                      first
                                      | exact ⟨congrArg Value.bool (node_w (by omega)).symm, hE⟩
                                      | exact ⟨vb (by rw [nodeB_iff, node_not hw (by omega) (by omega), wide1]), hE⟩
                                      | exact ⟨vb (by rw [nodeB_iff, node_bin hw (by omega) (by omega), wide2]), hE⟩
                                      | exact ⟨vb (by rw [nodeB_iff, node_ite hw (by omega) (by omega), wide3]), hE⟩
                                      | exact ⟨congrArg Value.bool (node_op (by omega)).symm, hE⟩
                                      | exact ⟨congrArg Value.bool (node_n (by omega) (by omega) (by omega) (by omega)).symm, hE⟩
                                      | exact ⟨vb (by rw [nodeB_iff, node_const hw (by omega)]; (try simp only [decide_eq_true_eq]); constructor <;> intro hq <;> (try cases hq) <;> omega), hE⟩
                                      | exact ⟨vb (by rw [nodeB_iff, node_cell hw (by omega)]; (try simp only [decide_eq_true_eq]); constructor <;> intro hq <;> (try cases hq) <;> omega), hE⟩
                                      | exact ⟨vb (by rw [nodeB_iff, node_cmp hw (by omega) (by omega)]; (try simp only [decide_eq_true_eq]); constructor <;> intro hq <;> (try cases hq) <;> omega), hE⟩
                                    · have h268' := dF h268;(iterate 15 refine WS_gN rfl rfl h268 ?_);refine WS_w rfl (fun _ _ _ => X_pickF (.bool _) rfl h268 rfl) ?_;refine WS_nil ?_;intro w288 xw288 Fw288;obtain ⟨Fw288, Dw288⟩ := Fw288;have hE : Ext w w288 := xw288;show WL _ _ _ _ _ [_] _ _ _;refine L_an (.bool _) rfl ?_;refine W_ret ?_;refine R_1 (.bool _) rfl rfl rfl ?_
                                      first
                                      | exact ⟨congrArg Value.bool (node_w (by omega)).symm, hE⟩
                                      | exact ⟨vb (by rw [nodeB_iff, node_not hw (by omega) (by omega), wide1]), hE⟩
                                      | exact ⟨vb (by rw [nodeB_iff, node_bin hw (by omega) (by omega), wide2]), hE⟩
                                      | exact ⟨vb (by rw [nodeB_iff, node_ite hw (by omega) (by omega), wide3]), hE⟩
                                      | exact ⟨congrArg Value.bool (node_op (by omega)).symm, hE⟩
                                      | exact ⟨congrArg Value.bool (node_n (by omega) (by omega) (by omega) (by omega)).symm, hE⟩
                                      | exact ⟨vb (by rw [nodeB_iff, node_const hw (by omega)]; (try simp only [decide_eq_true_eq]); constructor <;> intro hq <;> (try cases hq) <;> omega), hE⟩
                                      | exact ⟨vb (by rw [nodeB_iff, node_cell hw (by omega)]; (try simp only [decide_eq_true_eq]); constructor <;> intro hq <;> (try cases hq) <;> omega), hE⟩
                                      | exact ⟨vb (by rw [nodeB_iff, node_cmp hw (by omega) (by omega)]; (try simp only [decide_eq_true_eq]); constructor <;> intro hq <;> (try cases hq) <;> omega), hE⟩
                                  · have h258' := dF h258;(iterate 6 refine WS_gN rfl rfl h258 ?_);refine WS_w rfl (fun _ _ _ => X_pickF (.bool _) rfl h258 rfl) ?_;refine WS_w rfl (fun _ _ _ => X_move (.bool _) rfl) ?_;(iterate 15 refine WS_gN rfl rfl rfl ?_);refine WS_w rfl (fun _ _ _ => X_pickF (.bool _) rfl rfl rfl) ?_;refine WS_nil ?_;intro w292 xw292 Fw292;obtain ⟨Fw292, Dw292⟩ := Fw292;have hE : Ext w w292 := xw292;show WL _ _ _ _ _ [_] _ _ _;refine L_an (.bool _) rfl ?_;refine W_ret ?_;refine R_1 (.bool _) rfl rfl rfl ?_
                                    first
                                    | exact ⟨congrArg Value.bool (node_w (by omega)).symm, hE⟩
                                    | exact ⟨vb (by rw [nodeB_iff, node_not hw (by omega) (by omega), wide1]), hE⟩
                                    | exact ⟨vb (by rw [nodeB_iff, node_bin hw (by omega) (by omega), wide2]), hE⟩
                                    | exact ⟨vb (by rw [nodeB_iff, node_ite hw (by omega) (by omega), wide3]), hE⟩
                                    | exact ⟨congrArg Value.bool (node_op (by omega)).symm, hE⟩
                                    | exact ⟨congrArg Value.bool (node_n (by omega) (by omega) (by omega) (by omega)).symm, hE⟩
                                    | exact ⟨vb (by rw [nodeB_iff, node_const hw (by omega)]; (try simp only [decide_eq_true_eq]); constructor <;> intro hq <;> (try cases hq) <;> omega), hE⟩
                                    | exact ⟨vb (by rw [nodeB_iff, node_cell hw (by omega)]; (try simp only [decide_eq_true_eq]); constructor <;> intro hq <;> (try cases hq) <;> omega), hE⟩
                                    | exact ⟨vb (by rw [nodeB_iff, node_cmp hw (by omega) (by omega)]; (try simp only [decide_eq_true_eq]); constructor <;> intro hq <;> (try cases hq) <;> omega), hE⟩
                                · have ho6' := dF ho6;refine W_sr ?_;refine L_x (X_eq (k := .i64) rfl rfl) ?_;refine L_an (.bool _) rfl ?_;refine W_cond rfl (fun ho7 => ?_) (fun ho7 => ?_)
                                  · have ho7' := dT ho7;refine W_seq ?_;refine W_drawn 13 [(12, .rel (isMade w.heap.size 3 3 [.int .i64 1, .int .i64 e.w, .int .i64 e.w]))] (by kernel_rfl) (by kernel_rfl) ?_ ?_
                                    · intro jz φ hφ v w1 w2 hv hx;by_cases q12 : jz = 12
                                      · subst q12; cases hφ; exact hv.ext hx
                                      exact noRels (kds := []) rfl jz φ (by simpa [kdOf, beqF, q12] using hφ) v w1 w2 hv hx
                                    refine WS_w rfl (fun _ _ _ => X_move (.pointer _) rfl) ?_;refine WS_w rfl (fun _ _ _ => X_nilCheck rfl) ?_;refine WS_w rfl (fun _ _ _ => X_fieldAddr Tryz.underlying26 rfl Tryz.sizeOf24 (by decide) rfl (o + 3) rfl) ?_;refine WS_w rfl (fun _ x297 _ => X_load Tryz.isAgg24 rfl ((hc.ext (Ext.trans Ext.rfl x297)) 3 _ rfl)) ?_;refine WS_w rfl (fun _ _ _ => X_move (.pointer _) rfl) ?_;refine WS_w rfl (fun _ _ _ => X_nilCheck rfl) ?_;refine WS_w rfl (fun _ _ _ => X_fieldAddr Tryz.underlying26 rfl Tryz.sizeOf3 (by decide) rfl (o + 1) rfl) ?_;refine WS_w rfl (fun _ x301 _ => X_load Tryz.isAgg3 rfl ((hc.ext (Ext.trans Ext.rfl x301)) 1 _ rfl)) ?_;refine WS_w rfl (fun _ _ _ => X_move (.pointer _) rfl) ?_;refine WS_w rfl (fun _ _ _ => X_nilCheck rfl) ?_;refine WS_w rfl (fun _ _ _ => X_fieldAddr Tryz.underlying26 rfl Tryz.sizeOf3 (by decide) rfl (o + 1) rfl) ?_;refine WS_w rfl (fun _ x305 _ => X_load Tryz.isAgg3 rfl ((hc.ext (Ext.trans Ext.rfl x305)) 1 _ rfl)) ?_;refine WS_o (WS_rel _ rfl ?_ ?_)
                                    · intro wx306 x306 Fx306;exact R_buildS Tryz.underlying23 Tryz.sizeOf3 Tryz.zeroValue3 (by decide) [_, _, _] ((made_list _ _).trans rfl) [.int .i64 1, .int .i64 e.w, .int .i64 e.w] rfl x306.size
                                    intro vx306;refine WS_nil ?_;intro w307 xw307 Fw307;obtain ⟨Fw307, Dw307⟩ := Fw307;have hE : Ext w w307 := xw307;obtain ⟨vx306b, rfl, vx306le, vx306B⟩ := Fw307 _ (.head _);have fvx306b : w.heap.size ≤ vx306b := (by omega);show WL _ _ _ _ _ [_, _] _ _ _;have hws := Blk.slI (l := [1, e.w, e.w]) vx306B (by simp);refine L_o (O_call Tryz.call112 rfl rfl (wide_calls e.ks [1, e.w, e.w] ka (some ⟨vx306b, 0, none⟩) kc 3 _ (hkk.extE hE) hws) ?_);intro vw308 w308 rw308;obtain ⟨rfl, xw308⟩ := rw308;have hE : Ext w w308 := hE.trans xw308;have vx306B := vx306B.ext xw308;refine L_an (.bool _) rfl ?_;refine W_ret ?_;refine R_1 (.bool _) rfl rfl rfl ?_
                                    first
                                    | exact ⟨congrArg Value.bool (node_w (by omega)).symm, hE⟩
                                    | exact ⟨vb (by rw [nodeB_iff, node_not hw (by omega) (by omega), wide1]), hE⟩
                                    | exact ⟨vb (by rw [nodeB_iff, node_bin hw (by omega) (by omega), wide2]), hE⟩
                                    | exact ⟨vb (by rw [nodeB_iff, node_ite hw (by omega) (by omega), wide3]), hE⟩
                                    | exact ⟨congrArg Value.bool (node_op (by omega)).symm, hE⟩
                                    | exact ⟨congrArg Value.bool (node_n (by omega) (by omega) (by omega) (by omega)).symm, hE⟩
                                    | exact ⟨vb (by rw [nodeB_iff, node_const hw (by omega)]; (try simp only [decide_eq_true_eq]); constructor <;> intro hq <;> (try cases hq) <;> omega), hE⟩
                                    | exact ⟨vb (by rw [nodeB_iff, node_cell hw (by omega)]; (try simp only [decide_eq_true_eq]); constructor <;> intro hq <;> (try cases hq) <;> omega), hE⟩
                                    | exact ⟨vb (by rw [nodeB_iff, node_cmp hw (by omega) (by omega)]; (try simp only [decide_eq_true_eq]); constructor <;> intro hq <;> (try cases hq) <;> omega), hE⟩
                                  · have ho7' := dF ho7;refine W_skip ?_;refine W_sr ?_;refine L_an (.bool _) rfl ?_;refine W_ret ?_;refine R_1 (.bool _) rfl rfl rfl ?_
                                    first
                                    | exact ⟨congrArg Value.bool (node_w (by omega)).symm, Ext.rfl⟩
                                    | exact ⟨vb (by rw [nodeB_iff, node_not hw (by omega) (by omega), wide1]), Ext.rfl⟩
                                    | exact ⟨vb (by rw [nodeB_iff, node_bin hw (by omega) (by omega), wide2]), Ext.rfl⟩
                                    | exact ⟨vb (by rw [nodeB_iff, node_ite hw (by omega) (by omega), wide3]), Ext.rfl⟩
                                    | exact ⟨congrArg Value.bool (node_op (by omega)).symm, Ext.rfl⟩
                                    | exact ⟨congrArg Value.bool (node_n (by omega) (by omega) (by omega) (by omega)).symm, Ext.rfl⟩
                                    | exact ⟨vb (by rw [nodeB_iff, node_const hw (by omega)]; (try simp only [decide_eq_true_eq]); constructor <;> intro hq <;> (try cases hq) <;> omega), Ext.rfl⟩
                                    | exact ⟨vb (by rw [nodeB_iff, node_cell hw (by omega)]; (try simp only [decide_eq_true_eq]); constructor <;> intro hq <;> (try cases hq) <;> omega), Ext.rfl⟩
                                    | exact ⟨vb (by rw [nodeB_iff, node_cmp hw (by omega) (by omega)]; (try simp only [decide_eq_true_eq]); constructor <;> intro hq <;> (try cases hq) <;> omega), Ext.rfl⟩

end Go.Proofs.YtfflocidknkciaaGreatDoor
