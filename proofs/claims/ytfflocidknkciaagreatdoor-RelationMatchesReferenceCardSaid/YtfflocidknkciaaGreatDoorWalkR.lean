/- Walks through functions of the program, by explicit lemmas. -/
import Derived.Test.YtfflocidknkciaaGreatDoorWalkQ
import Derived.Test.YtfflocidknkciaaGreatDoorGrow
set_option linter.all false
set_option maxRecDepth 100000
set_option maxHeartbeats 4000000
namespace Go.Proofs.YtfflocidknkciaaGreatDoor
open Go Go.V
theorem grow_calls (m B : Nat) (w : World) (hm : m ≤ 1000000) (hB : B ≤ w.heap.size) :
    CV Tryz.prog 75 [.slice none 0 0, .int .i64 (m : Int)] w (fun v w' => w'.ownsRow B 3 1 v 0 [] ∧ Ext w w') := by
  refine CV_body Tryz.func75 rfl Tryz.ntmps75 (Nat.le_of_ble_eq_true rfl) ?_;refine W_sr ?_;refine L_an (.slice none 0 0) rfl ?_;refine W_seq ?_;refine W_sr ?_;refine L_m (.int _ _) rfl ?_;refine L_xn (X_lt (k := .i64) rfl rfl) ?_;refine W_cond rfl (fun h2 => ?_) (fun h2 => ?_)
  · have h2' := dT h2;exfalso; omega
  · have h2' := dF h2;refine W_skip ?_;refine W_seq ?_;refine W_sr ?_;refine L_m (.int _ _) rfl ?_;refine L_m (.slice none 0 0) rfl ?_;refine L_x (X_cap Tryz.underlying23 rfl) ?_;refine L_m (.slice none 0 0) rfl ?_;refine L_x (X_len (xs := []) Tryz.underlying23 rfl) ?_;(iterate 2 refine L_x (X_subI rfl rfl (by omega)) ?_);refine L_an (.int _ _) rfl ?_;refine W_sr ?_;refine L_m (.int _ _) rfl ?_;refine L_xn (X_gt (k := .i64) rfl rfl) ?_;refine W_cond rfl (fun h4 => ?_) (fun h4 => ?_)
    · have h4' := dT h4;refine W_region ?_;(iterate 2 refine L_m (.slice none 0 0) rfl ?_);refine L_x (X_cap Tryz.underlying23 rfl) ?_;refine L_x (X_slice (l := 0) (h := 0) Tryz.underlying23 Tryz.sizeOf3 rfl rfl ⟨_, rfl⟩ (by omega) (by omega) (by omega)) ?_;refine L_m (.int _ _) rfl ?_;refine L_o (O_grow0 m Tryz.underlying23 Tryz.underlying3 Tryz.type3 rfl rfl rfl rfl rfl (by first | rfl | exact vi (by omega)) (by omega) hm ?_);intro w5 bq cap cs hbq Bq hcl hmc hcm hx;have hE : Ext w w5 := hx;refine L_m (.slice none 0 0) rfl ?_;refine L_x (X_len (xs := []) Tryz.underlying23 rfl) ?_;refine L_x (X_slice (l := 0) (h := 0) Tryz.underlying23 Tryz.sizeOf3 rfl rfl ⟨_, rfl⟩ (by omega) (by omega) (by omega)) ?_;refine L_an (.slice _ _ _) rfl ?_;refine W_sr ?_;refine L_m (.slice _ _ _) rfl ?_;refine L_an (.slice _ _ _) rfl ?_;refine W_ret ?_;refine R_1 (.slice _ _ _) rfl rfl rfl ?_
      first
      | exact ⟨World.ownsRow_nil _ _ _ _, hE⟩
      | (refine ⟨?_, hE⟩
         have hc0 : ¬ cap = 0 := (by omega);simp only [Int.toNat_zero, Nat.zero_mul, Nat.sub_zero, Nat.sub_self, if_neg hc0, Option.map_some, addr_add, Nat.add_zero]
         exact own_room Bq (by omega) hcl hcm)
    · have h4' := dF h4;refine W_skip ?_;refine W_sr ?_;refine L_m (.slice none 0 0) rfl ?_;refine L_an (.slice none 0 0) rfl ?_;refine W_ret ?_;refine R_1 (.slice none 0 0) rfl rfl rfl ?_
      first
      | exact ⟨World.ownsRow_nil _ _ _ _, Ext.rfl⟩
      | (refine ⟨?_, hE⟩
         have hc0 : ¬ cap = 0 := (by omega);simp only [Int.toNat_zero, Nat.zero_mul, Nat.sub_zero, Nat.sub_self, if_neg hc0, Option.map_some, addr_add, Nat.add_zero]
         exact own_room Bq (by omega) hcl hcm)

theorem concat_calls (ls : List (List Int)) (b c : Nat) (w : World) (hl : LL w b 0 ls) (hn : ls.length ≤ 1000000) (ht : ls.flatten.length ≤ 1000000) :
    CV Tryz.prog 34 [.slice (some ⟨b, 0, none⟩) ls.length c] w (fun v w' => isNewI w.heap.size ls.flatten v w' ∧ Ext w w') := by
  have hf0 : (ls.take 0).flatten = [] := rfl;refine CV_body Tryz.func34 rfl Tryz.ntmps34 (Nat.le_of_ble_eq_true rfl) ?_;refine W_sr ?_;refine L_an (.slice none 0 0) rfl ?_;refine W_sr ?_;refine L_an (.int _ _) rfl ?_;refine W_seq ?_;refine W_sr ?_;refine L_m (.slice _ _ _) rfl ?_;refine L_x (X_len (xs := []) Tryz.underlying61 rfl) ?_;refine L_mn (.int _ _) rfl ?_;refine W_block ?_;refine W_loopS (σ := Nat) [3, 5, 11, 12, 13, 14, 15, 16, 17, 18, 19, 20, 21, 22] (fun k => [(11, .int .i64 (k : Int)), (3, .int .i64 ((((ls.take k).flatten).length : Nat) : Int))]) (fun k w1 => Ext w w1 ∧ (k ≤ ls.length)) (fun k => ls.length - k) (0) ⟨rfl, rfl, trivial⟩ ⟨Ext.rfl, Nat.zero_le _⟩ ?_
  rintro k jw1 w1 ⟨hE, hk⟩
  have hfl := flat_le ls k;refine W_sr ?_;refine L_xn (X_lt (k := .i64) rfl rfl) ?_;refine W_seq ?_;refine W_cond rfl (fun h3 => ?_) (fun h3 => ?_)
  · have h3' := dT h3;have hfs := flat_succ (ls := ls) (k := k) (by omega);have hfl2 := flat_le ls (k + 1);rw [hfs, List.length_append] at hfl2;refine W_skip ?_;refine W_seq ?_;refine W_block ?_;refine W_sr ?_;refine L_x (X_ixS (k) Tryz.underlying61 Tryz.sizeOf23 rfl rfl rfl (by first | rfl | omega) (by omega)) ?_;obtain ⟨qa, qc, hcl, hql⟩ := hl k (by omega);refine L_x (X_load Tryz.isAgg23 rfl (hcl.ext hE)) ?_;refine L_an (.slice _ _ _) rfl ?_;refine W_sr ?_;refine L_m (.int _ _) rfl ?_;refine L_m (.slice _ _ _) rfl ?_;refine L_x (X_len (xs := []) Tryz.underlying23 rfl) ?_;refine L_x (X_addI rfl rfl (by omega)) ?_;refine L_an (.int _ _) rfl ?_;refine W_sr ?_;refine L_m (.int _ _) rfl ?_;refine L_xn (X_lt (k := .i64) rfl rfl) ?_;refine W_cond rfl (fun h5 => ?_) (fun h5 => ?_)
    · have h5' := dT h5;exfalso; omega
    · have h5' := dF h5;refine W_skip ?_;refine W_region ?_;refine L_x (X_addI rfl rfl (by omega)) ?_;refine L_mn (.int _ _) rfl ?_;refine ⟨rfl, (by repeat first | exact Mod.refl | refine Mod.upd (by decide) ?_ | refine Mod.lay (by decide) (by decide) ?_), k + 1, (by omega), ⟨rfl, vi (by rw [hfs, List.length_append]; omega), trivial⟩, hE, by omega⟩
  · have h3' := dF h3;refine W_exit0  ?_;refine W_seq ?_;obtain rfl : k = ls.length := (by omega);rw [List.take_length];have hs9 := hE.size;refine W_region ?_;refine L_m (.int _ _) rfl ?_;refine L_o (O_call Tryz.call75 rfl rfl (grow_calls ls.flatten.length w.heap.size _ ht hs9) ?_);intro vw6 w6 rw6;obtain ⟨hown, xw6⟩ := rw6;have hE : Ext w w6 := hE.trans xw6;refine L_an (vw6) rfl ?_;refine W_seq ?_;refine W_sr ?_;refine L_m (.slice _ _ _) rfl ?_;refine L_x (X_len (xs := []) Tryz.underlying61 rfl) ?_;refine L_mn (.int _ _) rfl ?_;refine W_block ?_;refine W_loopS (σ := Nat × Value) [6, 8, 27, 28, 29, 30, 31, 32, 33, 34] (fun s => [(27, .int .i64 (s.1 : Int)), (6, s.2)]) (fun s w7 => Ext w w7 ∧ (s.1 ≤ ls.length ∧ w7.ownsRow w.heap.size 3 1 s.2 ((ls.take s.1).flatten).length (iv ((ls.take s.1).flatten)))) (fun s => ls.length - s.1) ((0, vw6)) ⟨rfl, rfl, trivial⟩ ⟨hE, Nat.zero_le _, hown⟩ ?_
    rintro ⟨k, u⟩ jw7 w7 ⟨hE, hk, hown⟩
    simp only at hk hown;have hfl := flat_le ls k;refine W_sr ?_;refine L_xn (X_lt (k := .i64) rfl rfl) ?_;refine W_seq ?_;refine W_cond rfl (fun h9 => ?_) (fun h9 => ?_)
    · have h9' := dT h9;have hfs := flat_succ (ls := ls) (k := k) (by omega);have hfl2 := flat_le ls (k + 1);rw [hfs, List.length_append] at hfl2;refine W_skip ?_;refine W_seq ?_;refine W_block ?_;refine W_sr ?_;refine L_x (X_ixS (k) Tryz.underlying61 Tryz.sizeOf23 rfl rfl rfl (by first | rfl | omega) (by omega)) ?_;obtain ⟨qa, qc, hcl, hql⟩ := hl k (by omega);refine L_x (X_load Tryz.isAgg23 rfl (hcl.ext hE)) ?_;refine L_an (.slice _ _ _) rfl ?_;refine W_region ?_;refine L_m (u) rfl ?_;refine L_m (.slice _ _ _) rfl ?_;refine L_o (O_appendI w.heap.size hown Tryz.underlying23 Tryz.type3 rfl rfl rfl rfl rfl rfl (hql.ext hE) (by omega) hE.size ?_);intro v10 w11 o12 g13;have hE : Ext w w11 := hE.grown g13 (fun k hk => (hown.lt k hk).1);have hown0 := hown;have hown := o12;refine L_an (v10) rfl ?_;refine W_region ?_;refine L_x (X_addI rfl rfl (by omega)) ?_;refine L_mn (.int _ _) rfl ?_;refine ⟨rfl, (by repeat first | exact Mod.refl | refine Mod.upd (by decide) ?_ | refine Mod.lay (by decide) (by decide) ?_), (k + 1, v10), (by simp only; omega), ⟨rfl, rfl, trivial⟩, hE, (by simp only; omega), (by simp only; rw [hfs, iv_append, List.length_append]; exact hown)⟩
    · have h9' := dF h9;refine W_exit0  ?_;refine W_sr ?_;refine L_m (u) rfl ?_;refine L_an (u) rfl ?_;refine W_ret ?_;refine ⟨rfl, _, res_1 rfl (show RC _ _ _ _ (.tmp 2) u from rfl), ?_⟩;obtain rfl : k = ls.length := (by omega);rw [List.take_length] at hown;exact ⟨New.own hown, hE⟩

end Go.Proofs.YtfflocidknkciaaGreatDoor
