/- Walks through functions of the program, by explicit lemmas. -/
import Derived.Test.YtfflocidknkciaaGreatDoorWalkL
import Derived.Test.YtfflocidknkciaaGreatDoorExpr
set_option linter.all false
set_option maxRecDepth 100000
set_option maxHeartbeats 4000000
namespace Go.Proofs.YtfflocidknkciaaGreatDoor
open Go Go.V
theorem element_calls (l : List Int) (x : Int) (a : Option Addr) (c : Nat) (w : World) (hl : SlI w a l) (hx : 0 ≤ x) :
    CV Tryz.prog 104 [.slice a l.length c, .int .i64 x] w (fun v w' => v = .int .i64 (atZ l x) ∧ Ext w w') := by
  have hlen := hl.len;refine CV_body Tryz.func104 rfl Tryz.ntmps104 (Nat.le_of_ble_eq_true rfl) ?_;refine W_sr ?_;refine L_an (.int _ _) rfl ?_;refine W_seq ?_;refine W_sr ?_;refine L_m (.int _ _) rfl ?_;refine L_m (.slice _ _ _) rfl ?_;refine L_x (X_len (xs := []) Tryz.underlying23 rfl) ?_;refine L_xn (X_lt (k := .i64) rfl rfl) ?_;refine W_cond rfl (fun hc => ?_) (fun hc => ?_)
  · have hc' := dT hc;refine W_sr ?_;refine L_m (.slice _ _ _) rfl ?_;refine L_m (.int _ _) rfl ?_;refine L_x (X_ixS (x.toNat) Tryz.underlying23 Tryz.sizeOf3 rfl rfl ((hl.ext Ext.rfl).ad x.toNat (by omega)) (by first | rfl | omega) (by omega)) ?_;refine L_x (X_load Tryz.isAgg3 rfl ((hl.ext Ext.rfl).get x.toNat (by omega))) ?_;refine L_an (.int _ _) rfl ?_;refine W_ret ?_;refine R_1 (.int _ _) rfl rfl rfl ?_;exact ⟨vi (by unfold atZ; rw [if_pos hc']), Ext.rfl⟩
  · have hc' := dF hc;refine W_skip ?_;refine W_sr ?_;refine L_an (.int _ _) rfl ?_;refine W_ret ?_;refine R_1 (.int _ _) rfl rfl rfl ?_;exact ⟨vi (by unfold atZ; rw [if_neg hc']), Ext.rfl⟩

theorem truth_calls (b : Bool) (w : World) :
    CV Tryz.prog 113 [.bool b] w (fun v w' => v = .int .i64 (if b = true then 1 else 0) ∧ Ext w w') := by
  refine CV_body Tryz.func113 rfl Tryz.ntmps113 (Nat.le_of_ble_eq_true rfl) ?_;refine W_sr ?_;refine L_an (.int _ _) rfl ?_;refine W_seq ?_;refine W_sr ?_;refine L_mn (.bool _) rfl ?_;refine W_cond rfl (fun hc => ?_) (fun hc => ?_)
  · refine W_sr ?_;refine L_an (.int _ _) rfl ?_;refine W_ret ?_;refine R_1 (.int _ _) rfl rfl rfl ?_;exact ⟨vi (by simp [hc]), Ext.rfl⟩
  · refine W_skip ?_;refine W_sr ?_;refine L_an (.int _ _) rfl ?_;refine W_ret ?_;refine R_1 (.int _ _) rfl rfl rfl ?_;exact ⟨vi (by simp [hc]), Ext.rfl⟩

theorem apply_calls (op a b c : Int) (w : World) (ha : 0 ≤ a ∧ a ≤ 255) (hb : 0 ≤ b ∧ b ≤ 255) :
    CV Tryz.prog 105 [.int .i64 op, .agg #[.int .i64 a, .int .i64 b, .int .i64 c]] w (fun v w' => v = .int .i64 (apZ op a b c) ∧ Ext w w') := by
  have hab : 0 ≤ a * b ∧ a * b ≤ 65025 := ⟨Int.mul_nonneg ha.1 hb.1, Int.le_trans (Int.mul_le_mul ha.2 hb.2 hb.1 (by omega)) (by omega)⟩;refine CV_body Tryz.func105 rfl Tryz.ntmps105 (Nat.le_of_ble_eq_true rfl) ?_;refine W_sr ?_;refine L_o (O_box rfl [_, _, _] rfl ?_);intro w1 zq2 ezq2 Bzq2 xw1;have fzq2 : w.heap.size ≤ zq2 := (by have := (Ext.rfl : Ext w w).size; omega);have tzq2 : w.heap.size ≤ zq2 := (by omega);clear ezq2;have hE : Ext w w1 := xw1;refine L_an (.int _ _) rfl ?_;refine W_seq ?_;refine W_drawn 5 [] (by kernel_rfl) (by kernel_rfl) (noRels rfl) ?_;refine WS_w rfl (fun _ _ _ => X_ixA (0) Tryz.underlying118 Tryz.sizeOf3 rfl rfl (by first | rfl | omega) (by omega)) ?_;refine WS_w rfl (fun _ x4 _ => X_load Tryz.isAgg3 rfl ((Bzq2.ext x4).cell rfl)) ?_;refine WS_w rfl (fun _ _ _ => X_ixA (1) Tryz.underlying118 Tryz.sizeOf3 rfl rfl (by first | rfl | omega) (by omega)) ?_;refine WS_w rfl (fun _ x6 _ => X_load Tryz.isAgg3 rfl ((Bzq2.ext x6).cell rfl)) ?_;refine WS_w rfl (fun _ _ _ => X_assign (.int _ _) rfl) ?_;refine WS_nil ?_;intro w8 xw8 Fw8;obtain ⟨Fw8, Dw8⟩ := Fw8;have hE : Ext w w8 := hE.trans xw8;have Bzq2 := Bzq2.ext xw8;show WL _ _ _ _ _ [_] _ _ _;refine L_an (.int _ _) rfl ?_;refine W_seq ?_;refine W_sr ?_;refine L_mn (.int _ _) rfl ?_;refine W_block ?_;refine W_seq ?_;refine W_block ?_;refine W_seq ?_;refine W_block ?_;refine W_seq ?_;refine W_block ?_;refine W_seq ?_;refine W_block ?_;refine W_seq ?_;refine W_block ?_;refine W_seq ?_;refine W_block ?_;refine W_seq ?_;refine W_block ?_;refine W_seq ?_;refine W_block ?_;refine W_seq ?_;refine W_block ?_;refine W_seq ?_;refine W_block ?_;refine W_seq ?_;refine W_block ?_;(iterate 2 refine W_seq ?_);refine W_sr ?_;refine L_x (X_eq (k := .i64) rfl rfl) ?_;refine L_an (.bool _) rfl ?_;refine W_cond rfl (fun h10 => ?_) (fun h10 => ?_)
  · have h10' := dT h10;refine W_exit0  ?_;refine W_seq ?_;refine W_sr ?_;refine L_m (.int _ _) rfl ?_;refine L_x (X_complI rfl (by omega)) ?_;refine L_an (.int _ _) rfl ?_;refine W_ret ?_;refine R_1 (.int _ _) rfl rfl rfl ?_;refine ⟨vi ?_, hE⟩;unfold apZ
    try simp only [decide_eq_true_eq]
    first
    | rfl
    | (repeat (first | rw [if_pos (by omega)] | rw [if_neg (by omega)])) <;> (try omega)
  · have h10' := dF h10;refine W_skip ?_;refine W_seq ?_;refine W_sr ?_;refine L_x (X_eq (k := .i64) rfl rfl) ?_;refine L_an (.bool _) rfl ?_;refine W_cond rfl (fun h12 => ?_) (fun h12 => ?_)
    · have h12' := dT h12;refine W_exit1 rfl ?_;refine W_seq ?_;refine W_sr ?_;(iterate 2 refine L_m (.int _ _) rfl ?_);refine L_x (X_and (k := .i64) rfl rfl) ?_;refine L_an (.int _ _) rfl ?_;refine W_ret ?_;refine R_1 (.int _ _) rfl rfl rfl ?_;refine ⟨vi ?_, hE⟩;unfold apZ
      try simp only [decide_eq_true_eq]
      first
      | rfl
      | (repeat (first | rw [if_pos (by omega)] | rw [if_neg (by omega)])) <;> (try omega)
    · have h12' := dF h12;refine W_skip ?_;refine W_seq ?_;refine W_sr ?_;refine L_x (X_eq (k := .i64) rfl rfl) ?_;refine L_an (.bool _) rfl ?_;refine W_cond rfl (fun h14 => ?_) (fun h14 => ?_)
      · have h14' := dT h14;refine W_exit2 rfl rfl ?_;refine W_seq ?_;refine W_sr ?_;(iterate 2 refine L_m (.int _ _) rfl ?_);refine L_x (X_or (k := .i64) rfl rfl) ?_;refine L_an (.int _ _) rfl ?_;refine W_ret ?_;refine R_1 (.int _ _) rfl rfl rfl ?_;refine ⟨vi ?_, hE⟩;unfold apZ
        try simp only [decide_eq_true_eq]
        first
        | rfl
        | (repeat (first | rw [if_pos (by omega)] | rw [if_neg (by omega)])) <;> (try omega)
      · have h14' := dF h14;refine W_skip ?_;refine W_seq ?_;refine W_sr ?_;refine L_x (X_eq (k := .i64) rfl rfl) ?_;refine L_an (.bool _) rfl ?_;refine W_cond rfl (fun h16 => ?_) (fun h16 => ?_)
        · have h16' := dT h16;refine W_exit3 rfl rfl rfl ?_;refine W_seq ?_;refine W_sr ?_;(iterate 2 refine L_m (.int _ _) rfl ?_);refine L_x (X_xor (k := .i64) rfl rfl) ?_;refine L_an (.int _ _) rfl ?_;refine W_ret ?_;refine R_1 (.int _ _) rfl rfl rfl ?_;refine ⟨vi ?_, hE⟩;unfold apZ
          try simp only [decide_eq_true_eq]
          first
          | rfl
          | (repeat (first | rw [if_pos (by omega)] | rw [if_neg (by omega)])) <;> (try omega)
        · have h16' := dF h16;refine W_skip ?_;refine W_seq ?_;refine W_sr ?_;refine L_x (X_eq (k := .i64) rfl rfl) ?_;refine L_an (.bool _) rfl ?_;refine W_cond rfl (fun h18 => ?_) (fun h18 => ?_)
          · have h18' := dT h18;refine W_exit' _ (exKS rfl (exKS rfl (exKS rfl (exKS rfl exK0)))) ?_;refine W_region ?_;refine L_m (.int _ _) rfl ?_;refine L_x (X_negI rfl (by omega)) ?_;refine L_an (.int _ _) rfl ?_;refine W_seq ?_;refine W_sr ?_;(iterate 2 refine L_m (.int _ _) rfl ?_);refine L_x (X_addI rfl rfl (by omega)) ?_;refine L_an (.int _ _) rfl ?_;refine W_ret ?_;refine R_1 (.int _ _) rfl rfl rfl ?_;refine ⟨vi ?_, hE⟩;unfold apZ
            try simp only [decide_eq_true_eq]
            first
            | rfl
            | (repeat (first | rw [if_pos (by omega)] | rw [if_neg (by omega)])) <;> (try omega)
          · have h18' := dF h18;refine W_skip ?_;refine W_seq ?_;refine W_sr ?_;refine L_x (X_eq (k := .i64) rfl rfl) ?_;refine L_an (.bool _) rfl ?_;refine W_cond rfl (fun h20 => ?_) (fun h20 => ?_)
            · have h20' := dT h20;refine W_exit' _ (exKS rfl (exKS rfl (exKS rfl (exKS rfl (exKS rfl exK0))))) ?_;refine W_seq ?_;refine W_sr ?_;(iterate 2 refine L_m (.int _ _) rfl ?_);refine L_x (X_addI rfl rfl (by omega)) ?_;refine L_an (.int _ _) rfl ?_;refine W_ret ?_;refine R_1 (.int _ _) rfl rfl rfl ?_;refine ⟨vi ?_, hE⟩;unfold apZ
              try simp only [decide_eq_true_eq]
              first
              | rfl
              | (repeat (first | rw [if_pos (by omega)] | rw [if_neg (by omega)])) <;> (try omega)
            · have h20' := dF h20;refine W_skip ?_;refine W_seq ?_;refine W_sr ?_;refine L_x (X_eq (k := .i64) rfl rfl) ?_;refine L_an (.bool _) rfl ?_;refine W_cond rfl (fun h22 => ?_) (fun h22 => ?_)
              · have h22' := dT h22;refine W_exit' _ (exKS rfl (exKS rfl (exKS rfl (exKS rfl (exKS rfl (exKS rfl exK0)))))) ?_;refine W_seq ?_;refine W_sr ?_;(iterate 2 refine L_m (.int _ _) rfl ?_);refine L_x (X_mulI rfl rfl (by omega)) ?_;refine L_an (.int _ _) rfl ?_;refine W_ret ?_;refine R_1 (.int _ _) rfl rfl rfl ?_;refine ⟨vi ?_, hE⟩;unfold apZ
                try simp only [decide_eq_true_eq]
                first
                | rfl
                | (repeat (first | rw [if_pos (by omega)] | rw [if_neg (by omega)])) <;> (try omega)
              · have h22' := dF h22;refine W_skip ?_;refine W_seq ?_;refine W_sr ?_;refine L_x (X_eq (k := .i64) rfl rfl) ?_;refine L_an (.bool _) rfl ?_;refine W_cond rfl (fun h24 => ?_) (fun h24 => ?_)
                · have h24' := dT h24;refine W_exit' _ (exKS rfl (exKS rfl (exKS rfl (exKS rfl (exKS rfl (exKS rfl (exKS rfl exK0))))))) ?_;refine W_seq ?_;refine W_sr ?_;(iterate 2 refine L_m (.int _ _) rfl ?_);refine L_x (X_eq (k := .i64) rfl rfl) ?_;refine L_o (O_call Tryz.call113 rfl rfl (truth_calls _ _) ?_);intro vw26 w26 rw26;obtain ⟨rfl, xw26⟩ := rw26;have hE : Ext w w26 := hE.trans xw26;have Bzq2 := Bzq2.ext xw26;refine L_an (.int _ _) rfl ?_;refine W_ret ?_;refine R_1 (.int _ _) rfl rfl rfl ?_;refine ⟨vi ?_, hE⟩;unfold apZ
                  try simp only [decide_eq_true_eq]
                  first
                  | rfl
                  | (repeat (first | rw [if_pos (by omega)] | rw [if_neg (by omega)])) <;> (try omega)
                · have h24' := dF h24;refine W_skip ?_;refine W_seq ?_;refine W_sr ?_;refine L_x (X_eq (k := .i64) rfl rfl) ?_;refine L_an (.bool _) rfl ?_;refine W_cond rfl (fun h28 => ?_) (fun h28 => ?_)
                  · have h28' := dT h28;refine W_exit' _ (exKS rfl (exKS rfl (exKS rfl (exKS rfl (exKS rfl (exKS rfl (exKS rfl (exKS rfl exK0)))))))) ?_;refine W_sr ?_;(iterate 2 refine L_m (.int _ _) rfl ?_);refine L_xn (X_eq (k := .i64) rfl rfl) ?_;refine W_cond rfl (fun h30 => ?_) (fun h30 => ?_)
                    · have h30' := dT h30;refine W_sr ?_;refine L_an (.int _ _) rfl ?_;refine W_ret ?_;refine R_1 (.int _ _) rfl rfl rfl ?_;refine ⟨vi ?_, hE⟩;unfold apZ
                      try simp only [decide_eq_true_eq]
                      first
                      | rfl
                      | (repeat (first | rw [if_pos (by omega)] | rw [if_neg (by omega)])) <;> (try omega)
                    · have h30' := dF h30;refine W_skip ?_;refine W_seq ?_;refine W_sr ?_;(iterate 2 refine L_m (.int _ _) rfl ?_);refine L_x (X_lt (k := .i64) rfl rfl) ?_;refine L_o (O_call Tryz.call113 rfl rfl (truth_calls _ _) ?_);intro vw32 w32 rw32;obtain ⟨rfl, xw32⟩ := rw32;have hE : Ext w w32 := hE.trans xw32;have Bzq2 := Bzq2.ext xw32;refine L_an (.int _ _) rfl ?_;refine W_ret ?_;refine R_1 (.int _ _) rfl rfl rfl ?_;refine ⟨vi ?_, hE⟩;unfold apZ
                      try simp only [decide_eq_true_eq]
                      first
                      | rfl
                      | (repeat (first | rw [if_pos (by omega)] | rw [if_neg (by omega)])) <;> (try omega)
                  · have h28' := dF h28;refine W_skip ?_;refine W_seq ?_;refine W_sr ?_;refine L_x (X_eq (k := .i64) rfl rfl) ?_;refine L_an (.bool _) rfl ?_;refine W_cond rfl (fun h34 => ?_) (fun h34 => ?_)
                    · have h34' := dT h34;refine W_exit' _ (exKS rfl (exKS rfl (exKS rfl (exKS rfl (exKS rfl (exKS rfl (exKS rfl (exKS rfl (exKS rfl exK0))))))))) ?_;refine W_seq ?_;refine W_sr ?_;(iterate 2 refine L_m (.int _ _) rfl ?_);refine L_x (X_lt (k := .i64) rfl rfl) ?_;refine L_o (O_call Tryz.call113 rfl rfl (truth_calls _ _) ?_);intro vw36 w36 rw36;obtain ⟨rfl, xw36⟩ := rw36;have hE : Ext w w36 := hE.trans xw36;have Bzq2 := Bzq2.ext xw36;refine L_an (.int _ _) rfl ?_;refine W_ret ?_;refine R_1 (.int _ _) rfl rfl rfl ?_;refine ⟨vi ?_, hE⟩;unfold apZ
                      try simp only [decide_eq_true_eq]
                      first
                      | rfl
                      | (repeat (first | rw [if_pos (by omega)] | rw [if_neg (by omega)])) <;> (try omega)
                    · have h34' := dF h34;refine W_skip ?_;refine W_sr ?_;refine L_x (X_eq (k := .i64) rfl rfl) ?_;refine L_an (.bool _) rfl ?_;refine W_cond rfl (fun h38 => ?_) (fun h38 => ?_)
                      · have h38' := dT h38;refine W_exit' _ (exKS rfl (exKS rfl (exKS rfl (exKS rfl (exKS rfl (exKS rfl (exKS rfl (exKS rfl (exKS rfl (exKS rfl exK0)))))))))) ?_;(iterate 2 refine W_seq ?_);refine W_sr ?_;refine L_m (.int _ _) rfl ?_;refine L_xn (X_eq (k := .i64) rfl rfl) ?_;refine W_cond rfl (fun h40 => ?_) (fun h40 => ?_)
                        · have h40' := dT h40;refine W_sr ?_;refine L_m (.int _ _) rfl ?_;refine L_an (.int _ _) rfl ?_;refine W_ret ?_;refine R_1 (.int _ _) rfl rfl rfl ?_;refine ⟨vi ?_, hE⟩;unfold apZ
                          try simp only [decide_eq_true_eq]
                          first
                          | rfl
                          | (repeat (first | rw [if_pos (by omega)] | rw [if_neg (by omega)])) <;> (try omega)
                        · have h40' := dF h40;refine W_skip ?_;refine W_sr ?_;refine L_x (X_ixA (2) Tryz.underlying118 Tryz.sizeOf3 rfl rfl (by first | rfl | omega) (by omega)) ?_;refine L_x (X_load Tryz.isAgg3 rfl (Bzq2.cell rfl)) ?_;refine L_an (.int _ _) rfl ?_;refine W_ret ?_;refine R_1 (.int _ _) rfl rfl rfl ?_;refine ⟨vi ?_, hE⟩;unfold apZ
                          try simp only [decide_eq_true_eq]
                          first
                          | rfl
                          | (repeat (first | rw [if_pos (by omega)] | rw [if_neg (by omega)])) <;> (try omega)
                      · have h38' := dF h38;refine W_skip ?_;refine W_exit' _ (exKS rfl (exKS rfl (exKS rfl (exKS rfl (exKS rfl (exKS rfl (exKS rfl (exKS rfl (exKS rfl (exKS rfl (exKS rfl exK0))))))))))) ?_;refine W_sr ?_;refine L_an (.int _ _) rfl ?_;refine W_ret ?_;refine R_1 (.int _ _) rfl rfl rfl ?_;refine ⟨vi ?_, hE⟩;unfold apZ
                        try simp only [decide_eq_true_eq]
                        first
                        | rfl
                        | (repeat (first | rw [if_pos (by omega)] | rw [if_neg (by omega)])) <;> (try omega)

end Go.Proofs.YtfflocidknkciaaGreatDoor
