import Derived.Lib.SliceRun
import Derived.Test.YtjmdlmogdbhdhaaDoorA2
import Derived.Test.YtjmdlmogdbhdhaaDoorA3
namespace Go.Proofs.YtjmdlmogdbhdhaaDoor.P
open Go.RowKit Go.Proofs.YtjmdlmogdbhdhaaDoorW.PrintWords Go.Proofs.YtjmdlmogdbhdhaaDoorW.PrintLast Go.Proofs.YtjmdlmogdbhdhaaDoorW.PrintMore
attribute [local go_sem] max2_int min2_int max_two min_two max_three min_three max_four min_four
set_option linter.unusedVariables false
set_option linter.unusedSimpArgs false
def deliberationnet_Admissible.l0 : Nat → List Int → Int → Int → List (S42) → Option (Bool)
 | 0, _, _, _, _ => none
 | k + 1, x1, x5, x500000, x500001 => if x5 < (x500001.length : Int) then (if 0 ≤ x5 then ((deliberationnet_In.f k x1 ((rd_T42 x500001 x5).f1)).bind fun t502 => (if t502 = true then ((deliberationnet_Attacked.f k x500000 x500001 x1 ((rd_T42 x500001 x5).f0)).bind fun t504 => (if t504 = true then (deliberationnet_Admissible.l0 k x1 (wrap64 (x5 + 1)) x500000 x500001) else (some false))) else (deliberationnet_Admissible.l0 k x1 (wrap64 (x5 + 1)) x500000 x500001))) else (none)) else ((deliberationnet_Free.f k x500000 x500001 x1).bind fun t500 => (some t500))
def deliberationnet_Admissible.f (k : Nat) (a0_0 : Int) (l0_1 : List (S42)) (l1 : List Int) : Option (Bool) := deliberationnet_Admissible.l0 k l1 0 a0_0 l0_1
def deliberationnet_Admissible.T4 : Bool × List (List Nat × List Nat) := (true, [([], []), ([], []), ([1], [1]), ([], []), ([2, 3], [2, 3]), ([4], [4]), ([5], [5]), ([0, 6], [0, 6]), ([7, 7], [7]), ([8], [8]), ([8], [8]), ([8], [8]), ([11, 8], [8, 11]), ([8], [8]), ([12, 13, 8], [8, 12, 13]), ([14, 8], [8, 14]), ([15, 8], [8, 15]), ([9, 10, 16, 8, 8], [8, 9, 10, 16]), ([17, 8], [8, 17]), ([8, 18], [8, 18])])
def deliberationnet_Admissible.B4 : List Nat := [0, 0, 2, 0, 14, 30, 62, 127, 255, 511, 511, 511, 2559, 511, 14847, 31231, 63999, 131071, 262143, 524287]
theorem deliberationnet_Admissible.tab4 : rtab .any (opsOf Tryd.f58 4) = deliberationnet_Admissible.T4 := by kernel_rfl
theorem deliberationnet_Admissible.bits4 : waitsOk deliberationnet_Admissible.T4.2 deliberationnet_Admissible.B4 = true := by kernel_rfl
set_option maxHeartbeats 8000000 in
set_option maxRecDepth 100000 in
theorem deliberationnet_Admissible.calls (k : Nat) (a0_0 : Int) (A0_1 : Option Addr) (c0_1 : Nat) (l0_1 : List (S42)) (A1 : Option Addr) (c1 : Nat) (l1 : List Int) (r : Bool) (w : World) (hr0_1 : Kd.C k42 w A0_1 l0_1.length l0_1) (hc0_1 : l0_1.length ≤ c0_1) (hr1 : Kd.C (Kd.int .i64) w A1 l1.length l1) (hc1 : l1.length ≤ c1) (h : deliberationnet_Admissible.f k a0_0 l0_1 l1 = some r) :
 Calls Tryd.prog 58 #[.agg #[.int .i64 a0_0, .slice A0_1 l0_1.length c0_1], .slice A1 l1.length c1] w fun e w' => e = .returned (.bool r) ∧ Below w.heap.size w w' := by
 have hu24 := Tryd.underlying24; have HR0_1 := Aside0.mk hr0_1; have HC0_1 := Aside0.mk hc0_1; clear hr0_1 hc0_1; have HR1 := Aside0.mk hr1; have HC1 := Aside0.mk hc1; clear hr1 hc1; have HB := Aside0.mk (Below.refl w.heap.size w); have H : (deliberationnet_Admissible.l0 k l1 0 a0_0 l0_1) = some r := h; clear h; have H' := Aside0.mk H; clear H; go_enter Tryd.func58, Tryd.ntmps58; go_wp2_with (first | ((with_reducible refine gate_dst (N := 2) rfl ?_); refine zX (N := 2) (cs := #[.int .i64 a0_0, .slice A0_1 l0_1.length c0_1]) (t := 24) ?_; intro gb499 hg w3 hbox hb; have BK499 := Aside0.mk (hbox); have GW499 := Aside0.mk (zW hg HB); have GE499 := Aside0.mk (zW hg HB); replace HB := Aside0.mk (below_step (zB HB) hb); clear hb hbox hg)); go_loopg [5] k (fun kq v5 w' => ∃ (x5_1 : Int), v5 = .int .i64 x5_1 ∧ Aside0 (deliberationnet_Admissible.l0 kq l1 x5_1 a0_0 l0_1 = some r) ∧ Aside0 (kq ≤ k) ∧ Aside0 (w'.heap[gb499]? = some (.cells #[.int .i64 a0_0, (.slice A0_1 l0_1.length c0_1)] 24 (0, 0))) ∧ Aside0 (Below w.heap.size w w'))
 case atStart => exact ⟨(0), zv, H', ⟨Nat.le_refl _⟩, ⟨zK BK499⟩, ⟨zB HB⟩⟩
 case round =>
  clear H'; try clear c1
  try clear p2
  obtain ⟨x5_1, rfl, HA, HK1, BK499, HB⟩ := hrel; cases gk with
  | zero => exact absurd HA.out (by simp [deliberationnet_Admissible.l0])
  | succ k1 =>
   have H := HA.out; clear HA; simp only [deliberationnet_Admissible.l0] at H; by_cases c4 : x5_1 < (l0_1.length : Int)
   · rw [if_pos c4] at H; have c4b0 : decide (x5_1 < (l0_1.length : Int)) = true := decide_eq_true c4; clear c4; by_cases c5 : 0 ≤ x5_1
     · rw [if_pos c5] at H; have c5b0 : decide (0 ≤ x5_1) = true := decide_eq_true c5; clear c5; replace H := Option.bind_eq_some_iff.mp H; obtain ⟨t502, A60, H⟩ := H; replace H : (if t502 = true then ((deliberationnet_Attacked.f k1 a0_0 l0_1 l1 ((rd_T42 l0_1 x5_1).f0)).bind fun t504 => (if t504 = true then (deliberationnet_Admissible.l0 k1 l1 (wrap64 (x5_1 + 1)) a0_0 l0_1) else (some false))) else (deliberationnet_Admissible.l0 k1 l1 (wrap64 (x5_1 + 1)) a0_0 l0_1)) = some r := H; have A6 := Aside0.mk A60; clear A60; by_cases c7 : t502 = true
       · subst c7; have H1 : ((deliberationnet_Attacked.f k1 a0_0 l0_1 l1 ((rd_T42 l0_1 x5_1).f0)).bind fun t504 => (if t504 = true then (deliberationnet_Admissible.l0 k1 l1 (wrap64 (x5_1 + 1)) a0_0 l0_1) else (some false))) = some r := by rw [if_pos rfl] at H; exact H
         clear H; have H := H1; clear H1; replace H := Option.bind_eq_some_iff.mp H; obtain ⟨t504, A80, H⟩ := H; replace H : (if t504 = true then (deliberationnet_Admissible.l0 k1 l1 (wrap64 (x5_1 + 1)) a0_0 l0_1) else (some false)) = some r := H; have A8 := Aside0.mk A80; clear A80; by_cases c9 : t504 = true
         · subst c9; have H1 : (deliberationnet_Admissible.l0 k1 l1 (wrap64 (x5_1 + 1)) a0_0 l0_1) = some r := by rw [if_pos rfl] at H; exact H
           clear H; have H := H1; clear H1; have H' := Aside0.mk H; clear H; have hcz10_0 := zc BK499 0; have hcz10_1 := zc BK499 1; have hfz10_0 := blk_frozen BK499.out 0; have hfz10_1 := blk_frozen BK499.out 1; try go_wp2
           replace BK499 := Aside0.mk (blk_drew BK499.out); replace HB := Aside0.mk (below_drew1 HB.out); have p501 : 0 ≤ (x5_1 : Int) := of_decide_eq_true (by first | (with_reducible assumption) | assumption); have q501 : x5_1 < (l0_1.length : Int) := of_decide_eq_true (by first | (with_reducible assumption) | assumption); obtain ⟨ad501, e501, hx501_0, hx501_1⟩ := at_T42 HR0_1.out x5_1 p501 q501; have hw501_1 := hx501_1; have hw501_0 := hx501_0; cases e501; replace hx501_0 := (HB.out.cell (World.block_lt_of_cell? w _ hx501_0)).trans hx501_0; replace hx501_1 := (HB.out.cell (World.block_lt_of_cell? w _ hx501_1)).trans hx501_1; replace p501 := eq_true p501; replace q501 := eq_true q501; have p503 : 0 ≤ (x5_1 : Int) := of_decide_eq_true (by first | (with_reducible assumption) | assumption); have q503 : x5_1 < (l0_1.length : Int) := of_decide_eq_true (by first | (with_reducible assumption) | assumption); obtain ⟨ad503, e503, hx503_0, hx503_1⟩ := at_T42 HR0_1.out x5_1 p503 q503; have hw503_1 := hx503_1; have hw503_0 := hx503_0; obtain rfl : ad501 = ad503 := (by injection e503); replace hx503_0 := (HB.out.cell (World.block_lt_of_cell? w _ hx503_0)).trans hx503_0; replace hx503_1 := (HB.out.cell (World.block_lt_of_cell? w _ hx503_1)).trans hx503_1; replace p503 := eq_true p503; replace q503 := eq_true q503; refine start_ (n := 20) (S := fun w' => w'.cell? ⟨gb499, 0, none⟩ = some (.int .i64 a0_0) ∧ w'.cell? ⟨gb499, 1, none⟩ = some (.slice (some ad501) l0_1.length c0_1) ∧ w'.cell? (ad501.add ((x5_1).toNat * 2)) = some (.int .i64 ((rd_T42 l0_1 x5_1).f0)) ∧ w'.cell? ⟨(ad501.add ((x5_1).toNat * 2)).block, (ad501.add ((x5_1).toNat * 2)).off + 1, none⟩ = some (.int .i64 ((rd_T42 l0_1 x5_1).f1)) ∧ w'.cell? (ad501.add ((x5_1).toNat * 2)) = some (.int .i64 ((rd_T42 l0_1 x5_1).f0)) ∧ w'.cell? ⟨(ad501.add ((x5_1).toNat * 2)).block, (ad501.add ((x5_1).toNat * 2)).off + 1, none⟩ = some (.int .i64 ((rd_T42 l0_1 x5_1).f1))) (ds := []) #[false, false, false, false, false, false, false, false, false, false, false, false, false, false, false, false, false, false, false, false] (by kernel_rfl) rfl rfl ⟨(blk_cell BK499.out 0).trans rfl, (blk_cell BK499.out 1).trans rfl, ((HB.out.cell (World.block_lt_of_cell? w _ hw501_0)).trans hw501_0), ((HB.out.cell (World.block_lt_of_cell? w _ hw501_1)).trans hw501_1), ((HB.out.cell (World.block_lt_of_cell? w _ hw503_0)).trans hw503_0), ((HB.out.cell (World.block_lt_of_cell? w _ hw503_1)).trans hw503_1)⟩ (fun hHeld => ?_); refine with_tabW deliberationnet_Admissible.tab4 deliberationnet_Admissible.bits4 (fun HT_ HW_ => ?_); generalize wr.drew = w11 at BK499 HB hx501_0 hx501_1 hx503_0 hx503_1 hHeld ⊢; refine zpu (i := 0) (n := 13) #[true, false, false, false, false, false, false, false, false, false, false, false, false, false, false, false, false, false, false, false] HT_ ?_; refine zpu (i := 1) (n := 14) #[true, true, false, false, false, false, false, false, false, false, false, false, false, false, false, false, false, false, false, false] HT_ ?_; refine zpu (i := 3) (n := 16) #[true, true, false, true, false, false, false, false, false, false, false, false, false, false, false, false, false, false, false, false] HT_ ?_; refine zt6 (i := 2) (n := 15) #[true, true, true, true, false, false, false, false, false, false, false, false, false, false, false, false, false, false, false, false] HT_ HW_ hHeld ?_; refine zpu (i := 4) (n := 17) #[true, true, true, true, true, false, false, false, false, false, false, false, false, false, false, false, false, false, false, false] HT_ ?_; refine zpu (i := 5) (n := 18) #[true, true, true, true, true, true, false, false, false, false, false, false, false, false, false, false, false, false, false, false] HT_ ?_; refine zt6 (i := 6) (n := 19) #[true, true, true, true, true, true, true, false, false, false, false, false, false, false, false, false, false, false, false, false] HT_ HW_ hHeld ?_; refine one_ (i := 7) (N := some 20) #[true, true, true, true, true, true, true, true, false, false, false, false, false, false, false, false, false, false, false, false] rfl rfl (one_of HT_.out (by kernel_rfl)) (by decide) (fun K hK => ?_); refine goes_ Tryd.func34 (by kernel_rfl) rfl #[.slice A1 l1.length c1, .int .i64 ((rd_T42 l0_1 x5_1).f1)] (by rfl) rfl rfl (by (try simp only [List.map_toArray, List.map_cons, List.map_nil]); first | done | rfl | (simp only [List.length_drop, List.length_take]; rfl)) ?_; with_reducible refine (deliberationnet_In.calls k1 _ _ l1 ((rd_T42 l0_1 x5_1).f1) true _ ?side1 ?side2 A6.out).mono ?_
           (case side1 => exact zCb HR1 HB); (case side2 => exact HC1.out); rintro e w' ⟨rfl, ⟨nd, rfl⟩⟩; refine ⟨_, rfl, ?_⟩; refine hK.out _ _ ⟨(blk_cell BK499.out 0).trans rfl, (blk_cell BK499.out 1).trans rfl, ((HB.out.cell (World.block_lt_of_cell? w _ hw501_0)).trans hw501_0), ((HB.out.cell (World.block_lt_of_cell? w _ hw501_1)).trans hw501_1), ((HB.out.cell (World.block_lt_of_cell? w _ hw503_0)).trans hw503_0), ((HB.out.cell (World.block_lt_of_cell? w _ hw503_1)).trans hw503_1)⟩ (fun hHeld => ?_); clear hK K; refine znn 20 ?_; refine zpu (i := 8) (n := 21) #[true, true, true, true, true, true, true, true, true, false, false, false, false, false, false, false, false, false, false, false] HT_ ?_; refine zpu (i := 10) (n := 23) #[true, true, true, true, true, true, true, true, true, false, true, false, false, false, false, false, false, false, false, false] HT_ ?_; refine zpu (i := 11) (n := 24) #[true, true, true, true, true, true, true, true, true, false, true, true, false, false, false, false, false, false, false, false] HT_ ?_; refine zpu (i := 13) (n := 26) #[true, true, true, true, true, true, true, true, true, false, true, true, false, true, false, false, false, false, false, false] HT_ ?_; refine zt6 (i := 9) (n := 22) #[true, true, true, true, true, true, true, true, true, true, true, true, false, true, false, false, false, false, false, false] HT_ HW_ hHeld ?_; refine zt6 (i := 12) (n := 25) #[true, true, true, true, true, true, true, true, true, true, true, true, true, true, false, false, false, false, false, false] HT_ HW_ hHeld ?_; refine zpu (i := 14) (n := 27) #[true, true, true, true, true, true, true, true, true, true, true, true, true, true, true, false, false, false, false, false] HT_ ?_; refine zpu (i := 15) (n := 28) #[true, true, true, true, true, true, true, true, true, true, true, true, true, true, true, true, false, false, false, false] HT_ ?_; refine zt6 (i := 16) (n := 29) #[true, true, true, true, true, true, true, true, true, true, true, true, true, true, true, true, true, false, false, false] HT_ HW_ hHeld ?_; refine one_ (i := 17) (N := some 30) #[true, true, true, true, true, true, true, true, true, true, true, true, true, true, true, true, true, true, false, false] rfl rfl (one_of HT_.out (by kernel_rfl)) (by decide) (fun K hK => ?_); refine goes_ Tryd.func63 (by kernel_rfl) rfl #[.agg #[.int .i64 a0_0, .slice (some ad501) l0_1.length c0_1], .slice A1 l1.length c1, .int .i64 ((rd_T42 l0_1 x5_1).f0)] (by rfl) rfl rfl (by (try simp only [List.map_toArray, List.map_cons, List.map_nil]); first | done | rfl | (simp only [List.length_drop, List.length_take]; rfl)) ?_; with_reducible refine (deliberationnet_Attacked.calls k1 a0_0 _ _ l0_1 _ _ l1 ((rd_T42 l0_1 x5_1).f0) true _ ?side1 ?side2 ?side3 ?side4 A8.out).mono ?_
           (case side1 => repeat (first | exact (Kd.C_below HR0_1.out (zB HB)) | (with_reducible refine Kd.C_alloc ?_ _) | (with_reducible refine Kd.C_drewN ?_ _) | (with_reducible refine Kd.C_drew ?_))); (case side2 => exact HC0_1.out); (case side3 => repeat (first | exact (Kd.C_below HR1.out (zB HB)) | (with_reducible refine Kd.C_alloc ?_ _) | (with_reducible refine Kd.C_drewN ?_ _) | (with_reducible refine Kd.C_drew ?_))); (case side4 => exact HC1.out); rintro e w12 ⟨rfl, hb⟩; refine ⟨_, rfl, ?_⟩; replace BK499 := Aside0.mk (zKb BK499 hb); replace HB := Aside0.mk (below_step (zB HB) hb); (try clear hb); (try clear hb2); (try clear hk); (try clear hi); refine hK.out _ _ ⟨(blk_cell BK499.out 0).trans rfl, (blk_cell BK499.out 1).trans rfl, ((HB.out.cell (World.block_lt_of_cell? w _ hw501_0)).trans hw501_0), ((HB.out.cell (World.block_lt_of_cell? w _ hw501_1)).trans hw501_1), ((HB.out.cell (World.block_lt_of_cell? w _ hw503_0)).trans hw503_0), ((HB.out.cell (World.block_lt_of_cell? w _ hw503_1)).trans hw503_1)⟩ (fun hHeld => ?_); clear hK K; refine znn 30 ?_; refine zpu (i := 18) (n := 31) #[true, true, true, true, true, true, true, true, true, true, true, true, true, true, true, true, true, true, true, false] HT_ ?_; refine zpu (i := 19) (n := 32) #[true, true, true, true, true, true, true, true, true, true, true, true, true, true, true, true, true, true, true, true] HT_ ?_; refine done_ (done_of HT_.out (by kernel_rfl)) ?_; try go_wp2
           go_roundg k1
           case measure => have := HK1.out; omega
           case rel => exact ⟨(wrap64 (x5_1 + 1)), zv, H', ⟨by have := HK1.out; omega⟩, ⟨zK BK499⟩, ⟨zB HB⟩⟩
         · replace c9 := Bool.eq_false_iff.mpr c9; subst c9; have H1 : (some false) = some r := by rw [if_neg (show ¬ (false = true) by decide)] at H; exact H
           clear H; have H := H1; clear H1; obtain rfl := Option.some.inj H; have hcz13_0 := zc BK499 0; have hcz13_1 := zc BK499 1; have hfz13_0 := blk_frozen BK499.out 0; have hfz13_1 := blk_frozen BK499.out 1; try go_wp2
           replace BK499 := Aside0.mk (blk_drew BK499.out); replace HB := Aside0.mk (below_drew1 HB.out); have p501 : 0 ≤ (x5_1 : Int) := of_decide_eq_true (by first | (with_reducible assumption) | assumption); have q501 : x5_1 < (l0_1.length : Int) := of_decide_eq_true (by first | (with_reducible assumption) | assumption); obtain ⟨ad501, e501, hx501_0, hx501_1⟩ := at_T42 HR0_1.out x5_1 p501 q501; have hw501_1 := hx501_1; have hw501_0 := hx501_0; cases e501; replace hx501_0 := (HB.out.cell (World.block_lt_of_cell? w _ hx501_0)).trans hx501_0; replace hx501_1 := (HB.out.cell (World.block_lt_of_cell? w _ hx501_1)).trans hx501_1; replace p501 := eq_true p501; replace q501 := eq_true q501; have p503 : 0 ≤ (x5_1 : Int) := of_decide_eq_true (by first | (with_reducible assumption) | assumption); have q503 : x5_1 < (l0_1.length : Int) := of_decide_eq_true (by first | (with_reducible assumption) | assumption); obtain ⟨ad503, e503, hx503_0, hx503_1⟩ := at_T42 HR0_1.out x5_1 p503 q503; have hw503_1 := hx503_1; have hw503_0 := hx503_0; obtain rfl : ad501 = ad503 := (by injection e503); replace hx503_0 := (HB.out.cell (World.block_lt_of_cell? w _ hx503_0)).trans hx503_0; replace hx503_1 := (HB.out.cell (World.block_lt_of_cell? w _ hx503_1)).trans hx503_1; replace p503 := eq_true p503; replace q503 := eq_true q503; refine start_ (n := 20) (S := fun w' => w'.cell? ⟨gb499, 0, none⟩ = some (.int .i64 a0_0) ∧ w'.cell? ⟨gb499, 1, none⟩ = some (.slice (some ad501) l0_1.length c0_1) ∧ w'.cell? (ad501.add ((x5_1).toNat * 2)) = some (.int .i64 ((rd_T42 l0_1 x5_1).f0)) ∧ w'.cell? ⟨(ad501.add ((x5_1).toNat * 2)).block, (ad501.add ((x5_1).toNat * 2)).off + 1, none⟩ = some (.int .i64 ((rd_T42 l0_1 x5_1).f1)) ∧ w'.cell? (ad501.add ((x5_1).toNat * 2)) = some (.int .i64 ((rd_T42 l0_1 x5_1).f0)) ∧ w'.cell? ⟨(ad501.add ((x5_1).toNat * 2)).block, (ad501.add ((x5_1).toNat * 2)).off + 1, none⟩ = some (.int .i64 ((rd_T42 l0_1 x5_1).f1))) (ds := []) #[false, false, false, false, false, false, false, false, false, false, false, false, false, false, false, false, false, false, false, false] (by kernel_rfl) rfl rfl ⟨(blk_cell BK499.out 0).trans rfl, (blk_cell BK499.out 1).trans rfl, ((HB.out.cell (World.block_lt_of_cell? w _ hw501_0)).trans hw501_0), ((HB.out.cell (World.block_lt_of_cell? w _ hw501_1)).trans hw501_1), ((HB.out.cell (World.block_lt_of_cell? w _ hw503_0)).trans hw503_0), ((HB.out.cell (World.block_lt_of_cell? w _ hw503_1)).trans hw503_1)⟩ (fun hHeld => ?_); refine with_tabW deliberationnet_Admissible.tab4 deliberationnet_Admissible.bits4 (fun HT_ HW_ => ?_); generalize wr.drew = w14 at BK499 HB hx501_0 hx501_1 hx503_0 hx503_1 hHeld ⊢; refine zpu (i := 0) (n := 13) #[true, false, false, false, false, false, false, false, false, false, false, false, false, false, false, false, false, false, false, false] HT_ ?_; refine zpu (i := 1) (n := 14) #[true, true, false, false, false, false, false, false, false, false, false, false, false, false, false, false, false, false, false, false] HT_ ?_; refine zpu (i := 3) (n := 16) #[true, true, false, true, false, false, false, false, false, false, false, false, false, false, false, false, false, false, false, false] HT_ ?_; refine zt6 (i := 2) (n := 15) #[true, true, true, true, false, false, false, false, false, false, false, false, false, false, false, false, false, false, false, false] HT_ HW_ hHeld ?_; refine zpu (i := 4) (n := 17) #[true, true, true, true, true, false, false, false, false, false, false, false, false, false, false, false, false, false, false, false] HT_ ?_; refine zpu (i := 5) (n := 18) #[true, true, true, true, true, true, false, false, false, false, false, false, false, false, false, false, false, false, false, false] HT_ ?_; refine zt6 (i := 6) (n := 19) #[true, true, true, true, true, true, true, false, false, false, false, false, false, false, false, false, false, false, false, false] HT_ HW_ hHeld ?_; refine one_ (i := 7) (N := some 20) #[true, true, true, true, true, true, true, true, false, false, false, false, false, false, false, false, false, false, false, false] rfl rfl (one_of HT_.out (by kernel_rfl)) (by decide) (fun K hK => ?_); refine goes_ Tryd.func34 (by kernel_rfl) rfl #[.slice A1 l1.length c1, .int .i64 ((rd_T42 l0_1 x5_1).f1)] (by rfl) rfl rfl (by (try simp only [List.map_toArray, List.map_cons, List.map_nil]); first | done | rfl | (simp only [List.length_drop, List.length_take]; rfl)) ?_; with_reducible refine (deliberationnet_In.calls k1 _ _ l1 ((rd_T42 l0_1 x5_1).f1) true _ ?side1 ?side2 A6.out).mono ?_
           (case side1 => exact zCb HR1 HB); (case side2 => exact HC1.out); rintro e w' ⟨rfl, ⟨nd, rfl⟩⟩; refine ⟨_, rfl, ?_⟩; refine hK.out _ _ ⟨(blk_cell BK499.out 0).trans rfl, (blk_cell BK499.out 1).trans rfl, ((HB.out.cell (World.block_lt_of_cell? w _ hw501_0)).trans hw501_0), ((HB.out.cell (World.block_lt_of_cell? w _ hw501_1)).trans hw501_1), ((HB.out.cell (World.block_lt_of_cell? w _ hw503_0)).trans hw503_0), ((HB.out.cell (World.block_lt_of_cell? w _ hw503_1)).trans hw503_1)⟩ (fun hHeld => ?_); clear hK K; refine znn 20 ?_; refine zpu (i := 8) (n := 21) #[true, true, true, true, true, true, true, true, true, false, false, false, false, false, false, false, false, false, false, false] HT_ ?_; refine zpu (i := 10) (n := 23) #[true, true, true, true, true, true, true, true, true, false, true, false, false, false, false, false, false, false, false, false] HT_ ?_; refine zpu (i := 11) (n := 24) #[true, true, true, true, true, true, true, true, true, false, true, true, false, false, false, false, false, false, false, false] HT_ ?_; refine zpu (i := 13) (n := 26) #[true, true, true, true, true, true, true, true, true, false, true, true, false, true, false, false, false, false, false, false] HT_ ?_; refine zt6 (i := 9) (n := 22) #[true, true, true, true, true, true, true, true, true, true, true, true, false, true, false, false, false, false, false, false] HT_ HW_ hHeld ?_; refine zt6 (i := 12) (n := 25) #[true, true, true, true, true, true, true, true, true, true, true, true, true, true, false, false, false, false, false, false] HT_ HW_ hHeld ?_; refine zpu (i := 14) (n := 27) #[true, true, true, true, true, true, true, true, true, true, true, true, true, true, true, false, false, false, false, false] HT_ ?_; refine zpu (i := 15) (n := 28) #[true, true, true, true, true, true, true, true, true, true, true, true, true, true, true, true, false, false, false, false] HT_ ?_; refine zt6 (i := 16) (n := 29) #[true, true, true, true, true, true, true, true, true, true, true, true, true, true, true, true, true, false, false, false] HT_ HW_ hHeld ?_; refine one_ (i := 17) (N := some 30) #[true, true, true, true, true, true, true, true, true, true, true, true, true, true, true, true, true, true, false, false] rfl rfl (one_of HT_.out (by kernel_rfl)) (by decide) (fun K hK => ?_); refine goes_ Tryd.func63 (by kernel_rfl) rfl #[.agg #[.int .i64 a0_0, .slice (some ad501) l0_1.length c0_1], .slice A1 l1.length c1, .int .i64 ((rd_T42 l0_1 x5_1).f0)] (by rfl) rfl rfl (by (try simp only [List.map_toArray, List.map_cons, List.map_nil]); first | done | rfl | (simp only [List.length_drop, List.length_take]; rfl)) ?_; with_reducible refine (deliberationnet_Attacked.calls k1 a0_0 _ _ l0_1 _ _ l1 ((rd_T42 l0_1 x5_1).f0) false _ ?side1 ?side2 ?side3 ?side4 A8.out).mono ?_
           (case side1 => repeat (first | exact (Kd.C_below HR0_1.out (zB HB)) | (with_reducible refine Kd.C_alloc ?_ _) | (with_reducible refine Kd.C_drewN ?_ _) | (with_reducible refine Kd.C_drew ?_))); (case side2 => exact HC0_1.out); (case side3 => repeat (first | exact (Kd.C_below HR1.out (zB HB)) | (with_reducible refine Kd.C_alloc ?_ _) | (with_reducible refine Kd.C_drewN ?_ _) | (with_reducible refine Kd.C_drew ?_))); (case side4 => exact HC1.out); rintro e w15 ⟨rfl, hb⟩; refine ⟨_, rfl, ?_⟩; replace BK499 := Aside0.mk (zKb BK499 hb); replace HB := Aside0.mk (below_step (zB HB) hb); (try clear hb); (try clear hb2); (try clear hk); (try clear hi); refine hK.out _ _ ⟨(blk_cell BK499.out 0).trans rfl, (blk_cell BK499.out 1).trans rfl, ((HB.out.cell (World.block_lt_of_cell? w _ hw501_0)).trans hw501_0), ((HB.out.cell (World.block_lt_of_cell? w _ hw501_1)).trans hw501_1), ((HB.out.cell (World.block_lt_of_cell? w _ hw503_0)).trans hw503_0), ((HB.out.cell (World.block_lt_of_cell? w _ hw503_1)).trans hw503_1)⟩ (fun hHeld => ?_); clear hK K; refine znn 30 ?_; refine zpu (i := 18) (n := 31) #[true, true, true, true, true, true, true, true, true, true, true, true, true, true, true, true, true, true, true, false] HT_ ?_; refine zpu (i := 19) (n := 32) #[true, true, true, true, true, true, true, true, true, true, true, true, true, true, true, true, true, true, true, true] HT_ ?_; refine done_ (done_of HT_.out (by kernel_rfl)) ?_; try go_wp2
           go_ret; exact ⟨by first | rfl | (simp [errW_none, errW_some] <;> rfl) | (simp [*, errW_none, errW_some] <;> rfl), zB HB⟩
       · replace c7 := Bool.eq_false_iff.mpr c7; subst c7; have H1 : (deliberationnet_Admissible.l0 k1 l1 (wrap64 (x5_1 + 1)) a0_0 l0_1) = some r := by rw [if_neg (show ¬ (false = true) by decide)] at H; exact H
         clear H; have H := H1; clear H1; have H' := Aside0.mk H; clear H; have hcz16_0 := zc BK499 0; have hcz16_1 := zc BK499 1; have hfz16_0 := blk_frozen BK499.out 0; have hfz16_1 := blk_frozen BK499.out 1; try go_wp2
         replace BK499 := Aside0.mk (blk_drew BK499.out); replace HB := Aside0.mk (below_drew1 HB.out); have p501 : 0 ≤ (x5_1 : Int) := of_decide_eq_true (by first | (with_reducible assumption) | assumption); have q501 : x5_1 < (l0_1.length : Int) := of_decide_eq_true (by first | (with_reducible assumption) | assumption); obtain ⟨ad501, e501, hx501_0, hx501_1⟩ := at_T42 HR0_1.out x5_1 p501 q501; have hw501_1 := hx501_1; have hw501_0 := hx501_0; cases e501; replace hx501_0 := (HB.out.cell (World.block_lt_of_cell? w _ hx501_0)).trans hx501_0; replace hx501_1 := (HB.out.cell (World.block_lt_of_cell? w _ hx501_1)).trans hx501_1; replace p501 := eq_true p501; replace q501 := eq_true q501; refine start_ (n := 20) (S := fun w' => w'.cell? ⟨gb499, 0, none⟩ = some (.int .i64 a0_0) ∧ w'.cell? ⟨gb499, 1, none⟩ = some (.slice (some ad501) l0_1.length c0_1) ∧ w'.cell? (ad501.add ((x5_1).toNat * 2)) = some (.int .i64 ((rd_T42 l0_1 x5_1).f0)) ∧ w'.cell? ⟨(ad501.add ((x5_1).toNat * 2)).block, (ad501.add ((x5_1).toNat * 2)).off + 1, none⟩ = some (.int .i64 ((rd_T42 l0_1 x5_1).f1))) (ds := []) #[false, false, false, false, false, false, false, false, false, false, false, false, false, false, false, false, false, false, false, false] (by kernel_rfl) rfl rfl ⟨(blk_cell BK499.out 0).trans rfl, (blk_cell BK499.out 1).trans rfl, ((HB.out.cell (World.block_lt_of_cell? w _ hw501_0)).trans hw501_0), ((HB.out.cell (World.block_lt_of_cell? w _ hw501_1)).trans hw501_1)⟩ (fun hHeld => ?_); refine with_tabW deliberationnet_Admissible.tab4 deliberationnet_Admissible.bits4 (fun HT_ HW_ => ?_); generalize wr.drew = w17 at BK499 HB hx501_0 hx501_1 hHeld ⊢; refine zpu (i := 0) (n := 13) #[true, false, false, false, false, false, false, false, false, false, false, false, false, false, false, false, false, false, false, false] HT_ ?_; refine zpu (i := 1) (n := 14) #[true, true, false, false, false, false, false, false, false, false, false, false, false, false, false, false, false, false, false, false] HT_ ?_; refine zpu (i := 3) (n := 16) #[true, true, false, true, false, false, false, false, false, false, false, false, false, false, false, false, false, false, false, false] HT_ ?_; refine zt4 (i := 2) (n := 15) #[true, true, true, true, false, false, false, false, false, false, false, false, false, false, false, false, false, false, false, false] HT_ HW_ hHeld ?_; refine zpu (i := 4) (n := 17) #[true, true, true, true, true, false, false, false, false, false, false, false, false, false, false, false, false, false, false, false] HT_ ?_; refine zpu (i := 5) (n := 18) #[true, true, true, true, true, true, false, false, false, false, false, false, false, false, false, false, false, false, false, false] HT_ ?_; refine zt4 (i := 6) (n := 19) #[true, true, true, true, true, true, true, false, false, false, false, false, false, false, false, false, false, false, false, false] HT_ HW_ hHeld ?_; refine one_ (i := 7) (N := some 20) #[true, true, true, true, true, true, true, true, false, false, false, false, false, false, false, false, false, false, false, false] rfl rfl (one_of HT_.out (by kernel_rfl)) (by decide) (fun K hK => ?_); refine goes_ Tryd.func34 (by kernel_rfl) rfl #[.slice A1 l1.length c1, .int .i64 ((rd_T42 l0_1 x5_1).f1)] (by rfl) rfl rfl (by (try simp only [List.map_toArray, List.map_cons, List.map_nil]); first | done | rfl | (simp only [List.length_drop, List.length_take]; rfl)) ?_; with_reducible refine (deliberationnet_In.calls k1 _ _ l1 ((rd_T42 l0_1 x5_1).f1) false _ ?side1 ?side2 A6.out).mono ?_
         (case side1 => exact zCb HR1 HB); (case side2 => exact HC1.out); rintro e w' ⟨rfl, ⟨nd, rfl⟩⟩; refine ⟨_, rfl, ?_⟩; refine hK.out _ _ ⟨(blk_cell BK499.out 0).trans rfl, (blk_cell BK499.out 1).trans rfl, ((HB.out.cell (World.block_lt_of_cell? w _ hw501_0)).trans hw501_0), ((HB.out.cell (World.block_lt_of_cell? w _ hw501_1)).trans hw501_1)⟩ (fun hHeld => ?_); clear hK K; refine znn 20 ?_; refine zpu (i := 8) (n := 21) #[true, true, true, true, true, true, true, true, true, false, false, false, false, false, false, false, false, false, false, false] HT_ ?_; refine zpn (i := 9) (n := 22) #[true, true, true, true, true, true, true, true, true, true, false, false, false, false, false, false, false, false, false, false] HT_ ?_; refine zpn (i := 10) (n := 23) #[true, true, true, true, true, true, true, true, true, true, true, false, false, false, false, false, false, false, false, false] HT_ ?_; refine zpn (i := 11) (n := 24) #[true, true, true, true, true, true, true, true, true, true, true, true, false, false, false, false, false, false, false, false] HT_ ?_; refine zpn (i := 12) (n := 25) #[true, true, true, true, true, true, true, true, true, true, true, true, true, false, false, false, false, false, false, false] HT_ ?_; refine zpn (i := 13) (n := 26) #[true, true, true, true, true, true, true, true, true, true, true, true, true, true, false, false, false, false, false, false] HT_ ?_; refine zpn (i := 14) (n := 27) #[true, true, true, true, true, true, true, true, true, true, true, true, true, true, true, false, false, false, false, false] HT_ ?_; refine zpn (i := 15) (n := 28) #[true, true, true, true, true, true, true, true, true, true, true, true, true, true, true, true, false, false, false, false] HT_ ?_; refine zpn (i := 16) (n := 29) #[true, true, true, true, true, true, true, true, true, true, true, true, true, true, true, true, true, false, false, false] HT_ ?_; refine zpn (i := 17) (n := 30) #[true, true, true, true, true, true, true, true, true, true, true, true, true, true, true, true, true, true, false, false] HT_ ?_; refine zpn (i := 18) (n := 31) #[true, true, true, true, true, true, true, true, true, true, true, true, true, true, true, true, true, true, true, false] HT_ ?_; refine zpu (i := 19) (n := 32) #[true, true, true, true, true, true, true, true, true, true, true, true, true, true, true, true, true, true, true, true] HT_ ?_; refine done_ (done_of HT_.out (by kernel_rfl)) ?_; try go_wp2
         go_roundg k1
         case measure => have := HK1.out; omega
         case rel => exact ⟨(wrap64 (x5_1 + 1)), zv, H', ⟨by have := HK1.out; omega⟩, ⟨zK BK499⟩, ⟨zB HB⟩⟩
     · rw [if_neg c5] at H; exact absurd H (by simp)
   · rw [if_neg c4] at H; have c4b0 : decide (x5_1 < (l0_1.length : Int)) = false := decide_eq_false c4; clear c4; replace H := Option.bind_eq_some_iff.mp H; obtain ⟨t500, A180, H⟩ := H; replace H : (some t500) = some r := H; have A18 := Aside0.mk A180; clear A180; obtain rfl := Option.some.inj H; have hcz19_0 := zc BK499 0; have hcz19_1 := zc BK499 1; have hfz19_0 := blk_frozen BK499.out 0; have hfz19_1 := blk_frozen BK499.out 1; go_wp2_with (first | ((with_reducible refine gate_callee (f := 81) rfl ?_); refine zG (some 35) rfl Tryd.func81 #[.agg #[.int .i64 a0_0, .slice A0_1 l0_1.length c0_1], .slice A1 l1.length c1] ?_; (with_reducible refine (deliberationnet_Free.calls k1 a0_0 _ _ l0_1 _ _ l1 t500 _ ?side1 ?side2 ?side3 ?side4 A18.out).mono ?_); (case side1 => exact zCb HR0_1 HB); (case side2 => exact HC0_1.out); (case side3 => exact zCb HR1 HB); (case side4 => exact HC1.out); rintro e w20 ⟨rfl, hb⟩; refine ⟨_, rfl, ?_⟩; replace BK499 := Aside0.mk (zKb BK499 hb); replace HB := Aside0.mk (below_step (zB HB) hb); (try clear hb); (try clear hb2); (try clear hk); (try clear hi))); go_ret; exact ⟨by first | rfl | (simp [errW_none, errW_some] <;> rfl) | (simp [*, errW_none, errW_some] <;> rfl), zB HB⟩
end Go.Proofs.YtjmdlmogdbhdhaaDoor.P
namespace Go.Proofs.YtjmdlmogdbhdhaaDoor.P
open Go.RowKit Go.Proofs.YtjmdlmogdbhdhaaDoorW.PrintWords Go.Proofs.YtjmdlmogdbhdhaaDoorW.PrintLast Go.Proofs.YtjmdlmogdbhdhaaDoorW.PrintMore
attribute [local go_sem] max2_int min2_int max_two min_two max_three min_three max_four min_four
set_option linter.unusedVariables false
set_option linter.unusedSimpArgs false
def deliberationref21_Acceptable.f (k : Nat) (a0_0 : Int) (l0_1 : List (S42)) (l1 : List Int) (a2 : Int) : Option (Bool) := if a2 = 2 then ((deliberationnet_Stable.f k a0_0 l0_1 l1).bind fun t506 => (some t506)) else ((deliberationnet_Admissible.f k a0_0 l0_1 l1).bind fun t507 => (some t507))
set_option maxHeartbeats 8000000 in
set_option maxRecDepth 100000 in
theorem deliberationref21_Acceptable.calls (k : Nat) (a0_0 : Int) (A0_1 : Option Addr) (c0_1 : Nat) (l0_1 : List (S42)) (A1 : Option Addr) (c1 : Nat) (l1 : List Int) (a2 : Int) (r : Bool) (w : World) (hr0_1 : Kd.C k42 w A0_1 l0_1.length l0_1) (hc0_1 : l0_1.length ≤ c0_1) (hr1 : Kd.C (Kd.int .i64) w A1 l1.length l1) (hc1 : l1.length ≤ c1) (h : deliberationref21_Acceptable.f k a0_0 l0_1 l1 a2 = some r) :
 Calls Tryd.prog 29 #[.agg #[.int .i64 a0_0, .slice A0_1 l0_1.length c0_1], .slice A1 l1.length c1, .int .i64 a2] w fun e w' => e = .returned (.bool r) ∧ Below w.heap.size w w' := by
 have hu24 := Tryd.underlying24; have HR0_1 := Aside0.mk hr0_1; have HC0_1 := Aside0.mk hc0_1; clear hr0_1 hc0_1; have HR1 := Aside0.mk hr1; have HC1 := Aside0.mk hc1; clear hr1 hc1; have HB := Aside0.mk (Below.refl w.heap.size w); have H : (if a2 = 2 then ((deliberationnet_Stable.f k a0_0 l0_1 l1).bind fun t506 => (some t506)) else ((deliberationnet_Admissible.f k a0_0 l0_1 l1).bind fun t507 => (some t507))) = some r := h; clear h; by_cases c4 : a2 = 2
 · rw [if_pos c4] at H; have c4b0 : (a2 == 2) = true := beq_iff_eq.mpr c4; have c4b1 : (a2 != 2) = false := bne_eq_false_iff_eq.mpr c4; clear c4; replace H := Option.bind_eq_some_iff.mp H; obtain ⟨t506, A50, H⟩ := H; replace H : (some t506) = some r := H; have A5 := Aside0.mk A50; clear A50; obtain rfl := Option.some.inj H; go_enter Tryd.func29, Tryd.ntmps29; go_wp2_with (first | ((with_reducible refine gate_dst (N := 3) rfl ?_); refine zX (N := 3) (cs := #[.int .i64 a0_0, .slice A0_1 l0_1.length c0_1]) (t := 24) ?_; intro gb505 hg w6 hbox hb; have BK505 := Aside0.mk (hbox); have GW505 := Aside0.mk (zW hg HB); have GE505 := Aside0.mk (zW hg HB); replace HB := Aside0.mk (below_step (zB HB) hb); clear hb hbox hg; have hcz7_0 := zc BK505 0; have hcz7_1 := zc BK505 1; have hfz7_0 := blk_frozen BK505.out 0; have hfz7_1 := blk_frozen BK505.out 1) | ((with_reducible refine gate_callee (f := 57) rfl ?_); refine zG (some 11) rfl Tryd.func57 #[.agg #[.int .i64 a0_0, .slice A0_1 l0_1.length c0_1], .slice A1 l1.length c1] ?_; (with_reducible refine (deliberationnet_Stable.calls k a0_0 _ _ l0_1 _ _ l1 t506 _ ?side1 ?side2 ?side3 ?side4 A5.out).mono ?_); (case side1 => exact zCb HR0_1 HB); (case side2 => exact HC0_1.out); (case side3 => exact zCb HR1 HB); (case side4 => exact HC1.out); rintro e w8 ⟨rfl, hb⟩; refine ⟨_, rfl, ?_⟩; replace BK505 := Aside0.mk (zKb BK505 hb); replace HB := Aside0.mk (below_step (zB HB) hb); (try clear hb); (try clear hb2); (try clear hk); (try clear hi))); go_ret; exact ⟨by first | rfl | (simp [errW_none, errW_some] <;> rfl) | (simp [*, errW_none, errW_some] <;> rfl), zB HB⟩
 · rw [if_neg c4] at H; have c4b0 : (a2 == 2) = false := beq_eq_false_iff_ne.mpr c4; have c4b1 : (a2 != 2) = true := bne_iff_ne.mpr c4; replace H := Option.bind_eq_some_iff.mp H; obtain ⟨t507, A90, H⟩ := H; replace H : (some t507) = some r := H; have A9 := Aside0.mk A90; clear A90; obtain rfl := Option.some.inj H; go_enter Tryd.func29, Tryd.ntmps29; go_wp2_with (first | ((with_reducible refine gate_dst (N := 3) rfl ?_); refine zX (N := 3) (cs := #[.int .i64 a0_0, .slice A0_1 l0_1.length c0_1]) (t := 24) ?_; intro gb505 hg w10 hbox hb; have BK505 := Aside0.mk (hbox); have GW505 := Aside0.mk (zW hg HB); have GE505 := Aside0.mk (zW hg HB); replace HB := Aside0.mk (below_step (zB HB) hb); clear hb hbox hg; have hcz11_0 := zc BK505 0; have hcz11_1 := zc BK505 1; have hfz11_0 := blk_frozen BK505.out 0; have hfz11_1 := blk_frozen BK505.out 1) | ((with_reducible refine gate_callee (f := 58) rfl ?_); refine zG (some 14) rfl Tryd.func58 #[.agg #[.int .i64 a0_0, .slice A0_1 l0_1.length c0_1], .slice A1 l1.length c1] ?_; (with_reducible refine (deliberationnet_Admissible.calls k a0_0 _ _ l0_1 _ _ l1 t507 _ ?side1 ?side2 ?side3 ?side4 A9.out).mono ?_); (case side1 => exact zCb HR0_1 HB); (case side2 => exact HC0_1.out); (case side3 => exact zCb HR1 HB); (case side4 => exact HC1.out); rintro e w12 ⟨rfl, hb⟩; refine ⟨_, rfl, ?_⟩; replace BK505 := Aside0.mk (zKb BK505 hb); replace HB := Aside0.mk (below_step (zB HB) hb); (try clear hb); (try clear hb2); (try clear hk); (try clear hi))); go_ret; exact ⟨by first | rfl | (simp [errW_none, errW_some] <;> rfl) | (simp [*, errW_none, errW_some] <;> rfl), zB HB⟩
end Go.Proofs.YtjmdlmogdbhdhaaDoor.P
/- Plain facts: the reference's acceptable sets. -/
namespace Go.Proofs.YtjmdlmogdbhdhaaDoor.P
open Go.RowKit Go.Proofs.YtjmdlmogdbhdhaaDoorW.PrintWords Go.Proofs.YtjmdlmogdbhdhaaDoorW.PrintLast Go.Proofs.YtjmdlmogdbhdhaaDoorW.PrintMore
theorem up1 (i : Nat) (h : i ≤ 1000000) : wrap64 ((i : Int) + 1) = ((i + 1 : Nat) : Int) := by rw [wrap_id _ (by omega) (by omega)]; rfl
theorem nin_l0 (l : List Int) (x : Int) (hl : l.length ≤ 1000000) : ∀ (n i : Nat), n + i = l.length → Ev (fun k => deliberationnet_In.l0 k l x (i : Int)) (decide (x ∈ l.drop i))
  | 0, i, hi => by
    refine Ev.succ ?_
    simp only [deliberationnet_In.l0]
    refine Ev.neg (by omega) ?_
    rw [List.drop_eq_nil_of_le (by omega)]
    exact Ev.const _
  | n + 1, i, hi => by
    have hlt : i < l.length := by omega
    have ih := nin_l0 l x hl n (i + 1) (by omega)
    refine Ev.succ ?_
    simp only [deliberationnet_In.l0, rd_get l i hlt, up1 i (by omega)]
    refine Ev.pos (by omega) (Ev.pos (by omega) ?_)
    rw [List.drop_eq_getElem_cons hlt]
    by_cases he : l[i] = x
    · refine Ev.pos he ?_
      rw [decide_eq_true (by rw [he]; exact List.mem_cons_self)]
      exact Ev.const _
    · refine Ev.neg he ?_
      rw [show decide (x ∈ l[i] :: l.drop (i + 1)) = decide (x ∈ l.drop (i + 1)) from decide_eq_decide.2 ⟨fun h => (List.mem_cons.1 h).resolve_left (fun e => he e.symm), List.mem_cons_of_mem _⟩]
      exact ih
theorem nin_ev (l : List Int) (x : Int) (hl : l.length ≤ 1000000) : Ev (fun k => deliberationnet_In.f k l x) (decide (x ∈ l)) := by
  have := nin_l0 l x hl l.length 0 (by omega)
  rw [List.drop_zero] at this
  exact this
theorem nhas_l0 (N : Int) (L : List S42) (a b : Int) (hl : L.length ≤ 1000000) : ∀ (n i : Nat), n + i = L.length → Ev (fun k => deliberationnet_Has.l0 k a b (i : Int) N L) (decide ((⟨a, b⟩ : S42) ∈ L.drop i))
  | 0, i, hi => by
    refine Ev.succ ?_
    simp only [deliberationnet_Has.l0]
    refine Ev.neg (by omega) ?_
    rw [List.drop_eq_nil_of_le (by omega)]
    exact Ev.const _
  | n + 1, i, hi => by
    have hlt : i < L.length := by omega
    have ih := nhas_l0 N L a b hl n (i + 1) (by omega)
    refine Ev.succ ?_
    simp only [deliberationnet_Has.l0, rdT_get L i hlt, up1 i (by omega)]
    refine Ev.pos (by omega) (Ev.pos (by omega) ?_)
    rw [List.drop_eq_getElem_cons hlt]
    by_cases he : (⟨a, b⟩ : S42) = L[i]
    · refine Ev.pos (by rw [← he]) (Ev.pos (by rw [← he]) ?_)
      rw [decide_eq_true (by rw [he]; exact List.mem_cons_self)]
      exact Ev.const _
    · rw [show decide ((⟨a, b⟩ : S42) ∈ L[i] :: L.drop (i + 1)) = decide ((⟨a, b⟩ : S42) ∈ L.drop (i + 1)) from decide_eq_decide.2 ⟨fun h => (List.mem_cons.1 h).resolve_left he, List.mem_cons_of_mem _⟩]
      by_cases h1 : (L[i]).f0 = a
      · by_cases h2 : (L[i]).f1 = b
        · exact absurd (by rw [← h1, ← h2]) he
        · exact Ev.pos h1 (Ev.neg h2 ih)
      · exact Ev.neg h1 ih
theorem nhas_ev (N : Int) (L : List S42) (a b : Int) (hl : L.length ≤ 1000000) : Ev (fun k => deliberationnet_Has.f k N L a b) (decide ((⟨a, b⟩ : S42) ∈ L)) := by
  have := nhas_l0 N L a b hl L.length 0 (by omega)
  rw [List.drop_zero] at this
  exact this
def attd (L : List S42) (s : List Int) (b : Int) : Bool := s.any fun a => decide ((⟨a, b⟩ : S42) ∈ L)
theorem natt_l0 (N : Int) (L : List S42) (s : List Int) (b : Int) (hl : L.length ≤ 1000000) (hs : s.length ≤ 1000000) : ∀ (n i : Nat), n + i = s.length → Ev (fun k => deliberationnet_Attacked.l0 k s b (i : Int) N L) (attd L (s.drop i) b)
  | 0, i, hi => by
    refine Ev.succ ?_
    simp only [deliberationnet_Attacked.l0]
    refine Ev.neg (by omega) ?_
    rw [List.drop_eq_nil_of_le (by omega)]
    exact Ev.const _
  | n + 1, i, hi => by
    have hlt : i < s.length := by omega
    have ih := natt_l0 N L s b hl hs n (i + 1) (by omega)
    refine Ev.succ ?_
    simp only [deliberationnet_Attacked.l0, rd_get s i hlt, up1 i (by omega)]
    refine Ev.pos (by omega) (Ev.pos (by omega) (Ev.bind (nhas_ev N L _ _ hl) ?_))
    rw [List.drop_eq_getElem_cons hlt]
    unfold attd
    rw [List.any_cons]
    cases hd : decide ((⟨s[i], b⟩ : S42) ∈ L) with
    | true => exact Ev.pos rfl (Ev.const _)
    | false => exact Ev.neg (by simp) ih
theorem natt_ev (N : Int) (L : List S42) (s : List Int) (b : Int) (hl : L.length ≤ 1000000) (hs : s.length ≤ 1000000) : Ev (fun k => deliberationnet_Attacked.f k N L s b) (attd L s b) := natt_l0 N L s b hl hs s.length 0 (by omega)
theorem nfree_l0 (N : Int) (L : List S42) (s : List Int) (hl : L.length ≤ 1000000) (hs : s.length ≤ 1000000) : ∀ (n i : Nat), n + i = s.length → Ev (fun k => deliberationnet_Free.l0 k s (i : Int) N L) ((s.drop i).all fun b => !attd L s b)
  | 0, i, hi => by
    refine Ev.succ ?_
    simp only [deliberationnet_Free.l0]
    refine Ev.neg (by omega) ?_
    rw [List.drop_eq_nil_of_le (by omega)]
    exact Ev.const _
  | n + 1, i, hi => by
    have hlt : i < s.length := by omega
    have ih := nfree_l0 N L s hl hs n (i + 1) (by omega)
    refine Ev.succ ?_
    simp only [deliberationnet_Free.l0, rd_get s i hlt, up1 i (by omega)]
    refine Ev.pos (by omega) (Ev.pos (by omega) (Ev.bind (natt_ev N L s _ hl hs) ?_))
    rw [List.drop_eq_getElem_cons hlt, List.all_cons]
    cases hd : attd L s s[i] with
    | true => exact Ev.pos rfl (Ev.const _)
    | false => exact Ev.neg (by simp) ih
theorem nfree_ev (N : Int) (L : List S42) (s : List Int) (hl : L.length ≤ 1000000) (hs : s.length ≤ 1000000) : Ev (fun k => deliberationnet_Free.f k N L s) (s.all fun b => !attd L s b) := nfree_l0 N L s hl hs s.length 0 (by omega)
/-- All a below i + n, from i on, are in s or attacked by it. -/
def cov (L : List S42) (s : List Int) : Nat → Nat → Bool
  | 0, _ => true
  | n + 1, i => (decide ((i : Int) ∈ s) || attd L s i) && cov L s n (i + 1)
theorem cov_iff (L : List S42) (s : List Int) : ∀ (n i : Nat), cov L s n i = true ↔ ∀ a : Nat, i ≤ a → a < i + n → ((a : Int) ∈ s ∨ attd L s a = true)
  | 0, i => by simp only [cov, true_iff]; intro a h1 h2; omega
  | n + 1, i => by
    simp only [cov, Bool.and_eq_true, Bool.or_eq_true, decide_eq_true_eq, cov_iff L s n (i + 1)]
    constructor
    · rintro ⟨h1, h2⟩ a ha hb
      by_cases hai : a = i
      · rw [hai]; exact h1
      · exact h2 a (by omega) (by omega)
    · intro h
      exact ⟨h i (by omega) (by omega), fun a ha hb => h a (by omega) (by omega)⟩
theorem nstable_l0 (N : Int) (L : List S42) (s : List Int) (hN : N ≤ 1000) (hl : L.length ≤ 1000000) (hs : s.length ≤ 1000000) : ∀ (n i : Nat), ((n + i : Nat) : Int) = N → Ev (fun k => deliberationnet_Stable.l0 k s (i : Int) N L) (cov L s n i && s.all fun b => !attd L s b)
  | 0, i, hi => by
    refine Ev.succ ?_
    simp only [deliberationnet_Stable.l0]
    refine Ev.neg (by omega) ?_
    rw [cov, Bool.true_and]
    exact Ev.bind (nfree_ev N L s hl hs) (Ev.const _)
  | n + 1, i, hi => by
    have ih := nstable_l0 N L s hN hl hs n (i + 1) (by omega)
    refine Ev.succ ?_
    simp only [deliberationnet_Stable.l0, up1 i (by omega)]
    refine Ev.pos (by omega) (Ev.bind (nin_ev s _ hs) ?_)
    rw [cov]
    cases hd : decide ((i : Int) ∈ s) with
    | true => exact Ev.pos rfl (by simpa using ih)
    | false =>
      refine Ev.neg (by simp) (Ev.bind (natt_ev N L s _ hl hs) ?_)
      cases he : attd L s (i : Int) with
      | true => exact Ev.pos rfl (by simpa using ih)
      | false => exact Ev.neg (by simp) (by simpa using Ev.const false)
theorem nadm_l0 (N : Int) (L : List S42) (s : List Int) (hl : L.length ≤ 1000000) (hs : s.length ≤ 1000000) : ∀ (n i : Nat), n + i = L.length → Ev (fun k => deliberationnet_Admissible.l0 k s (i : Int) N L) (((L.drop i).all fun p => !decide (p.f1 ∈ s) || attd L s p.f0) && s.all fun b => !attd L s b)
  | 0, i, hi => by
    refine Ev.succ ?_
    simp only [deliberationnet_Admissible.l0]
    refine Ev.neg (by omega) ?_
    rw [List.drop_eq_nil_of_le (by omega), List.all_nil, Bool.true_and]
    exact Ev.bind (nfree_ev N L s hl hs) (Ev.const _)
  | n + 1, i, hi => by
    have hlt : i < L.length := by omega
    have ih := nadm_l0 N L s hl hs n (i + 1) (by omega)
    refine Ev.succ ?_
    simp only [deliberationnet_Admissible.l0, rdT_get L i hlt, up1 i (by omega)]
    refine Ev.pos (by omega) (Ev.pos (by omega) (Ev.bind (nin_ev s _ hs) ?_))
    rw [List.drop_eq_getElem_cons hlt, List.all_cons]
    cases hd : decide ((L[i]).f1 ∈ s) with
    | false => exact Ev.neg (by simp) (by simpa using ih)
    | true =>
      refine Ev.pos rfl (Ev.bind (natt_ev N L s _ hl hs) ?_)
      cases he : attd L s (L[i]).f0 with
      | true => exact Ev.pos rfl (by simpa using ih)
      | false => exact Ev.neg (by simp) (by simpa using Ev.const false)
theorem attd_iff (L : List S42) (s : List Int) (b : Int) : attd L s b = true ↔ ∃ x ∈ s, (⟨x, b⟩ : S42) ∈ L := by
  unfold attd
  simp only [List.any_eq_true, decide_eq_true_eq]
theorem racc_ok {N : Int} {L : List S42} (hG : GoodG N L) {l : List Int} (hl : SetL N l) (kind : Int) : ∃ b, Ev (fun k => deliberationref21_Acceptable.f k N L l kind) b ∧ (b = true ↔ AccP N L l kind) := by
  have h0 := hG.n0
  have h1 := hG.n1
  have hlen := good_len hG
  have hll := hl.len h0 h1
  have hf : (l.all fun b => !attd L l b) = true ↔ ∀ a ∈ l, ∀ b ∈ l, ¬ (⟨a, b⟩ : S42) ∈ L := by
    rw [List.all_eq_true]
    constructor
    · intro h a ha b hb he
      have := h b hb
      rw [(attd_iff L l b).2 ⟨a, ha, he⟩] at this
      cases this
    · intro h b hb
      rw [Bool.not_eq_true', Bool.eq_false_iff]
      intro hh
      obtain ⟨a, ha, he⟩ := (attd_iff L l b).1 hh
      exact h a ha b hb he
  unfold AccP
  by_cases hk : kind = 2
  · refine ⟨cov L l N.toNat 0 && l.all fun b => !attd L l b, ?_, ?_⟩
    · simp only [deliberationref21_Acceptable.f]
      exact Ev.pos hk (Ev.bind (nstable_l0 N L l (by omega) (by omega) (by omega) N.toNat 0 (by omega)) (Ev.const _))
    · rw [if_pos hk, Bool.and_eq_true, hf, cov_iff, and_comm]
      refine and_congr Iff.rfl ⟨fun h a ha haN => ?_, fun h a _ haN => ?_⟩
      · have := h a.toNat (by omega) (by omega)
        rw [show ((a.toNat : Nat) : Int) = a by omega, attd_iff] at this
        exact this
      · rw [attd_iff]
        exact h a (by omega) (by omega)
  · refine ⟨((L.drop 0).all fun p => !decide (p.f1 ∈ l) || attd L l p.f0) && l.all fun b => !attd L l b, ?_, ?_⟩
    · simp only [deliberationref21_Acceptable.f]
      exact Ev.neg hk (Ev.bind (nadm_l0 N L l (by omega) (by omega) L.length 0 (by omega)) (Ev.const _))
    · rw [if_neg hk, Bool.and_eq_true, hf, and_comm, List.drop_zero, List.all_eq_true]
      refine and_congr Iff.rfl ⟨fun h p hp hb => ?_, fun h p hp => ?_⟩
      · have := h p hp
        rw [decide_eq_true hb] at this
        exact (attd_iff L l p.f0).1 (by simpa using this)
      · by_cases hb : p.f1 ∈ l
        · rw [(attd_iff L l p.f0).2 (h p hp hb)]
          simp
        · simp [hb]
end Go.Proofs.YtjmdlmogdbhdhaaDoor.P
namespace Go.Proofs.YtjmdlmogdbhdhaaDoor.P
open Go.RowKit Go.Proofs.YtjmdlmogdbhdhaaDoorW.PrintWords Go.Proofs.YtjmdlmogdbhdhaaDoorW.PrintLast Go.Proofs.YtjmdlmogdbhdhaaDoorW.PrintMore
attribute [local go_sem] max2_int min2_int max_two min_two max_three min_three max_four min_four
set_option linter.unusedVariables false
set_option linter.unusedSimpArgs false
mutual
def enforce_duties.l0 : Nat → List Int → Int → Int → List (List (S42)) → List (S42) → Int → Int → Int → List (S42) → Int → List Int → List Int → Option ((List (List (S42))))
 | 0, _, _, _, _, _, _, _, _, _, _, _, _ => none
 | k + 1, x1, x2, x7, x9, x24, x25, x26, x191000, x191001, x200000, x200001, x200002 => if x26 < x25 then (if 0 ≤ x26 then (if x26 < (x24.length : Int) then ((network_Set_Has.f x7 ((rd_T42 x24 x26).f0)).bind fun t202 => (if t202 = true then ((network_Set_Has.f x7 ((rd_T42 x24 x26).f1)).bind fun t203 => (if t203 = true then (if x9.length < 5864062014805 then (enforce_duties.l0 k x1 x2 x7 (x9 ++ [(([(⟨(rd_T42 x24 x26).f0, (rd_T42 x24 x26).f1⟩ : S42)] : List (S42)))]) x24 x25 (wrap64 (x26 + 1)) x191000 x191001 x200000 x200001 x200002) else (none)) else (enforce_duties.l0 k x1 x2 x7 x9 x24 x25 (wrap64 (x26 + 1)) x191000 x191001 x200000 x200001 x200002))) else (enforce_duties.l0 k x1 x2 x7 x9 x24 x25 (wrap64 (x26 + 1)) x191000 x191001 x200000 x200001 x200002))) else (none)) else (none)) else ((network_Net_Hit.f k x200000 x200001 x200002 x7).bind fun t210 => (enforce_duties.l1 k x1 x2 x7 x9 t210 x191000 0 x200000 x200001 x200002))
def enforce_duties.l1 : Nat → List Int → Int → Int → List (List (S42)) → Int → Int → Int → Int → List Int → List Int → Option ((List (List (S42))))
 | 0, _, _, _, _, _, _, _, _, _, _ => none
 | k + 1, x1, x2, x7, x9, x12, x50, x51, x200000, x200001, x200002 => if x51 < x50 then ((network_Set_Has.f x7 x51).bind fun t211 => (if t211 = true then (enforce_duties.j2 k x1 x2 x7 x9 x12 x51 x50 x51 true x200000 x200001 x200002) else ((network_Set_Has.f x12 x51).bind fun t212 => (if t212 = true then (enforce_duties.j2 k x1 x2 x7 x9 x12 x51 x50 x51 true x200000 x200001 x200002) else (if x2 = 1 then (if 0 ≤ x51 then (if x51 < (x200002.length : Int) then (enforce_duties.j2 k x1 x2 x7 x9 x12 x51 x50 x51 ((Go.bits .and .u64 (rd x200002 x51) x7) == 0) x200000 x200001 x200002) else (none)) else (none)) else (enforce_duties.j2 k x1 x2 x7 x9 x12 x51 x50 x51 false x200000 x200001 x200002)))))) else (some x9)
def enforce_duties.j2 : Nat → List Int → Int → Int → List (List (S42)) → Int → Int → Int → Int → Bool → Int → List Int → List Int → Option ((List (List (S42))))
 | 0, _, _, _, _, _, _, _, _, _, _, _, _ => none
 | k + 1, x1, x2, x7, x9, x12, x13, x50, x51, x75, x200000, x200001, x200002 => if x75 = true then (enforce_duties.l1 k x1 x2 x7 x9 x12 x50 (wrap64 (x51 + 1)) x200000 x200001 x200002) else (enforce_duties.l2 k x1 x2 x7 x9 x12 x13 ([] : List (S42)) x50 x51 x1 (x1.length : Int) 0 x200000 x200001 x200002)
def enforce_duties.l2 : Nat → List Int → Int → Int → List (List (S42)) → Int → Int → List (S42) → Int → Int → List Int → Int → Int → Int → List Int → List Int → Option ((List (List (S42))))
 | 0, _, _, _, _, _, _, _, _, _, _, _, _, _, _, _ => none
 | k + 1, x1, x2, x7, x9, x12, x13, x14, x50, x51, x76, x77, x78, x200000, x200001, x200002 => if x78 < x77 then (if 0 ≤ x78 then (if x78 < (x76.length : Int) then (if x14.length < 8796093022208 then (enforce_duties.l2 k x1 x2 x7 x9 x12 x13 (x14 ++ [(⟨rd x76 x78, x13⟩ : S42)]) x50 x51 x76 x77 (wrap64 (x78 + 1)) x200000 x200001 x200002) else (none)) else (none)) else (none)) else (if x2 = 1 then (if 0 ≤ x13 then (if x13 < (x200002.length : Int) then ((network_Set_List.f k (Go.bits .and .u64 (rd x200002 x13) x7)).bind fun t219 => (enforce_duties.l3 k x1 x2 x7 x9 x12 x13 x14 x50 x51 t219 (t219.length : Int) 0 x200000 x200001 x200002)) else (none)) else (none)) else ((api_Pair_42.f x14).bind fun t230 => (if x9.length < 5864062014805 then (enforce_duties.l1 k x1 x2 x7 (x9 ++ [t230]) x12 x50 (wrap64 (x51 + 1)) x200000 x200001 x200002) else (none))))
def enforce_duties.l3 : Nat → List Int → Int → Int → List (List (S42)) → Int → Int → List (S42) → Int → Int → List Int → Int → Int → Int → List Int → List Int → Option ((List (List (S42))))
 | 0, _, _, _, _, _, _, _, _, _, _, _, _, _, _, _ => none
 | k + 1, x1, x2, x7, x9, x12, x13, x14, x50, x51, x98, x99, x100, x200000, x200001, x200002 => if x100 < x99 then (if 0 ≤ x100 then (if x100 < (x98.length : Int) then (if x14.length < 8796093022208 then (enforce_duties.l3 k x1 x2 x7 x9 x12 x13 (x14 ++ [(⟨x13, rd x98 x100⟩ : S42)]) x50 x51 x98 x99 (wrap64 (x100 + 1)) x200000 x200001 x200002) else (none)) else (none)) else (none)) else ((api_Pair_42.f x14).bind fun t226 => (if x9.length < 5864062014805 then (enforce_duties.l1 k x1 x2 x7 (x9 ++ [t226]) x12 x50 (wrap64 (x51 + 1)) x200000 x200001 x200002) else (none)))
end
def enforce_duties.f (k : Nat) (a0_0 : Int) (l0_1 : List (S42)) (l1 : List Int) (a2 : Int) : Option ((List (List (S42)))) := (network_Of.f k l1).bind fun t191 => ((network_New.f k a0_0 l0_1).bind fun bt192 => (enforce_duties.l0 k l1 a2 t191 ([] : List (List (S42))) l0_1 (l0_1.length : Int) 0 a0_0 l0_1 bt192.1 bt192.2.1 bt192.2.2))
set_option maxHeartbeats 8000000 in
set_option maxRecDepth 100000 in
theorem enforce_duties.calls (k : Nat) (a0_0 : Int) (A0_1 : Option Addr) (c0_1 : Nat) (l0_1 : List (S42)) (A1 : Option Addr) (c1 : Nat) (l1 : List Int) (a2 : Int) (r : List (List (S42))) (w : World) (hr0_1 : Kd.C k42 w A0_1 l0_1.length l0_1) (hc0_1 : l0_1.length ≤ c0_1) (hr1 : Kd.C (Kd.int .i64) w A1 l1.length l1) (hc1 : l1.length ≤ c1) (hT : TabT w) (h : enforce_duties.f k a0_0 l0_1 l1 a2 = some r) :
 Calls Tryd.prog 52 #[.agg #[.int .i64 a0_0, .slice A0_1 l0_1.length c0_1], .slice A1 l1.length c1, .int .i64 a2] w fun e w' => ∃ v0_ : Value, e = .returned (v0_) ∧ Kd.S (Kd.slice 42 k42) 22 w' w.heap.size (fun _ => True) v0_ r ∧ Below w.heap.size w w' := by
 have hu24 := Tryd.underlying24; have hu80 := Tryd.underlying80; have hu42 := Tryd.underlying42; have HR0_1 := Aside0.mk hr0_1; have HC0_1 := Aside0.mk hc0_1; clear hr0_1 hc0_1; have HR1 := Aside0.mk hr1; have HC1 := Aside0.mk hc1; clear hr1 hc1; have HTab := Aside0.mk hT; clear hT; have HB := Aside0.mk (Below.refl w.heap.size w); have H : ((network_Of.f k l1).bind fun t191 => ((network_New.f k a0_0 l0_1).bind fun bt192 => (enforce_duties.l0 k l1 a2 t191 ([] : List (List (S42))) l0_1 (l0_1.length : Int) 0 a0_0 l0_1 bt192.1 bt192.2.1 bt192.2.2))) = some r := h; clear h; replace H := Option.bind_eq_some_iff.mp H; obtain ⟨t191, A40, H⟩ := H; replace H : ((network_New.f k a0_0 l0_1).bind fun bt192 => (enforce_duties.l0 k l1 a2 t191 ([] : List (List (S42))) l0_1 (l0_1.length : Int) 0 a0_0 l0_1 bt192.1 bt192.2.1 bt192.2.2)) = some r := H; have A4 := Aside0.mk A40; clear A40; replace H := Option.bind_eq_some_iff.mp H; obtain ⟨⟨t192, t193, t196⟩, A50, H⟩ := H; replace H : (enforce_duties.l0 k l1 a2 t191 ([] : List (List (S42))) l0_1 (l0_1.length : Int) 0 a0_0 l0_1 t192 t193 t196) = some r := H; have A5 := Aside0.mk A50; clear A50; have H' := Aside0.mk H; clear H; go_enter Tryd.func52, Tryd.ntmps52; try go_wp2_with (first | ((with_reducible refine gate_dst (N := 3) rfl ?_); refine zX (N := 3) (cs := #[.int .i64 a0_0, .slice A0_1 l0_1.length c0_1]) (t := 24) ?_; intro gb190 hg w6 hbox hb; have BK190 := Aside0.mk (hbox); have GW190 := Aside0.mk (zW hg HB); have GE190 := Aside0.mk (zW hg HB); replace HB := Aside0.mk (below_step (zB HB) hb); clear hb hbox hg))
 replace BK190 := Aside0.mk (blk_drew BK190.out); replace HB := Aside0.mk (below_drew1 HB.out); refine start_ (n := 7) (S := fun w' => w'.cell? ⟨gb190, 0, none⟩ = some (.int .i64 a0_0) ∧ w'.cell? ⟨gb190, 1, none⟩ = some (.slice A0_1 l0_1.length c0_1)) (ds := []) #[false, false, false, false, false, false, false] (by kernel_rfl) rfl rfl ⟨(blk_cell BK190.out 0).trans rfl, (blk_cell BK190.out 1).trans rfl⟩ (fun hHeld => ?_); generalize w6.drew = w7 at BK190 HB hHeld ⊢; refine pure_ (i := 0) (N := some 19) (v := ?_) (a' := ?_) #[true, false, false, false, false, false, false] rfl rfl (by kernel_rfl) (fun _ _ _ h => h) (Or.inl ⟨by rfl, ?_⟩) ?_ ?_; rotate_left; · intro w'; go_simp; with_reducible rfl
 rotate_left; · simp only [Act.put, List.setIfInBounds_toArray, List.set_cons_zero, List.set_cons_succ, i64_w, i32_w]; rfl
 refine take_ (i := 2) (N := some 21) (v := ?_) (a' := ?_) #[true, false, true, false, false, false, false] rfl rfl (by kernel_rfl) (fun _ _ _ h => h) (Or.inl ⟨by rfl, ?_⟩) hHeld ?_ ?_; rotate_left; · rintro w' ⟨s0, s1⟩; go_simp; with_reducible rfl
 rotate_left; · simp only [Act.put, List.setIfInBounds_toArray, List.set_cons_zero, List.set_cons_succ, i64_w, i32_w]; rfl
 refine join_ (σ := Value × Value × Nat) 2 #[true, true, true, true, true, false, false] (fun s_ => [(20, .int .u64 t191), (22, .agg #[.int .u64 t192, s_.1, s_.2.1]), (8, .pointer (some ⟨s_.2.2, 0, none⟩))]) (fun s_ w' => (w'.cell? ⟨gb190, 0, none⟩ = some (.int .i64 a0_0) ∧ w'.cell? ⟨gb190, 1, none⟩ = some (.slice A0_1 l0_1.length c0_1)) ∧ (Kd.R (Kd.int .u64) 76 w' w.heap.size (fun k_ => some k_ ≠ (s_.2.1 : Value).ownBlock) s_.1 t193) ∧ (Kd.R (Kd.int .u64) 76 w' w.heap.size (fun k_ => some k_ ≠ (s_.1 : Value).ownBlock) s_.2.1 t196) ∧ (w'.heap[gb190]? = some (.cells #[.int .i64 a0_0, .slice A0_1 l0_1.length c0_1] 24 (0, 0))) ∧ (w'.heap[s_.2.2]? = some (.cells #[.int .u64 0, .slice none 0 0, .slice none 0 0] 80 (0, 0))) ∧ (w.heap.size ≤ s_.2.2) ∧ (w.heap.size ≤ s_.2.2) ∧ (gb190 ≠ s_.2.2) ∧ (s_.2.2 ≠ gb190) ∧ (Below w.heap.size w w')) ?_ ?_; rotate_left
 · intro hCont; refine two_ (i := 1) (j := 4) (Ni := some 20) (Nj := some 8) #[true, true, true, false, false, false, false] #[true, false, true, false, true, false, false] rfl rfl rfl rfl (by kernel_rfl) (by decide) (by decide) (fun K hK => ?_) (fun K hK => ?_)
   · refine goes_ Tryd.func48 (by kernel_rfl) rfl #[.slice A1 l1.length c1] (by rfl) rfl rfl (by (try simp only [List.map_toArray, List.map_cons, List.map_nil]); first | done | rfl | (simp only [List.length_drop, List.length_take]; rfl)) ?_; with_reducible refine (network_Of.calls k _ _ l1 t191 _ ?side1 ?side2 A4.out).mono ?_
     (case side1 => exact zCb HR1 HB); (case side2 => exact HC1.out); rintro e w' ⟨rfl, ⟨nd, rfl⟩⟩; refine ⟨_, rfl, ?_⟩; refine hK.out _ _ ⟨(blk_cell BK190.out 0).trans rfl, (blk_cell BK190.out 1).trans rfl⟩ (fun hHeld => ?_); clear hK K; refine znn 20 ?_; refine two_ (i := 3) (j := 4) (Ni := some 22) (Nj := some 8) #[true, true, true, true, false, false, false] #[true, true, true, false, true, false, false] rfl rfl rfl rfl (by kernel_rfl) (by decide) (by decide) (fun K hK => ?_) (fun K hK => ?_)
     · refine goes_ Tryd.func49 (by kernel_rfl) rfl #[.agg #[.int .i64 a0_0, .slice A0_1 l0_1.length c0_1]] (by rfl) rfl rfl (by (try simp only [List.map_toArray, List.map_cons, List.map_nil]); first | done | rfl | (simp only [List.length_drop, List.length_take]; rfl)) ?_; with_reducible refine (network_New.calls k a0_0 _ _ l0_1 t192 t193 t196 _ ?side1 ?side2 A5.out).mono ?_
       (case side1 => repeat (first | exact (Kd.C_below HR0_1.out (zB HB)) | (with_reducible refine Kd.C_alloc ?_ _) | (with_reducible refine Kd.C_drewN ?_ _) | (with_reducible refine Kd.C_drew ?_))); (case side2 => exact HC0_1.out); rintro e w8 ⟨v194, v197, rfl, ho0, ho1, hb⟩; refine ⟨_, rfl, ?_⟩; have HO195 := Aside0.mk (Kd.R_lower ho0 (below_size (zB HB))); have HO198 := Aside0.mk (Kd.R_lower ho1 (below_size (zB HB))); replace BK190 := Aside0.mk (zKb BK190 hb); replace HB := Aside0.mk (below_step (zB HB) hb); (try clear hb); (try clear hb2); (try clear hk); (try clear hi); (try clear ho0); (try clear ho1); refine hK.out _ _ ⟨(blk_cell BK190.out 0).trans rfl, (blk_cell BK190.out 1).trans rfl⟩ (fun hHeld => ?_); clear hK K; refine znn 22 ?_; refine one_ (i := 4) (N := some 8) #[true, true, true, true, true, false, false] rfl rfl (by kernel_rfl) (by decide) (fun K hK => ?_); refine box_step ?hg (N := 8) ?hd (cs := #[.int .u64 0, .slice none 0 0, .slice none 0 0]) (t := 80) ?hr ?_; (case hd => rfl); (case hg => rfl); (case hr => first | (go_simp; done) | (go_simp; rfl)); intro gb199 hg w9 hbox hb; have BK199 := Aside0.mk (hbox); have GW199 := Aside0.mk (zW hg HB); have GE199 := Aside0.mk (zW hg HB); have NB190_199 := Aside0.mk (zNl hg BK190); have NB199_190 := Aside0.mk (zNr hg BK190); replace HO195 := Aside0.mk (Kd.R_below (zR HO195) hb); replace HO198 := Aside0.mk (Kd.R_below (zR HO198) hb); replace BK190 := Aside0.mk (zKb BK190 hb); replace HB := Aside0.mk (below_step (zB HB) hb); clear hb hbox hg; refine hK.out _ _ ⟨(blk_cell BK190.out 0).trans rfl, (blk_cell BK190.out 1).trans rfl⟩ (fun hHeld => ?_); clear hK K; refine znn 8 ?_; exact znj (hCont (v194, v197, gb199) _ ⟨hHeld, (zR HO195), (zR HO198), (zK BK190), (zK BK199), GW199.out, GE199.out, NB190_199.out, NB199_190.out, (zB HB)⟩)
     · refine box_step ?hg (N := 8) ?hd (cs := #[.int .u64 0, .slice none 0 0, .slice none 0 0]) (t := 80) ?hr ?_; (case hd => rfl); (case hg => rfl); (case hr => first | (go_simp; done) | (go_simp; rfl)); intro gb199 hg w8 hbox hb; have BK199 := Aside0.mk (hbox); have GW199 := Aside0.mk (zW hg HB); have GE199 := Aside0.mk (zW hg HB); have NB190_199 := Aside0.mk (zNl hg BK190); have NB199_190 := Aside0.mk (zNr hg BK190); replace BK190 := Aside0.mk (zKb BK190 hb); replace HB := Aside0.mk (below_step (zB HB) hb); clear hb hbox hg; refine hK.out _ _ ⟨(blk_cell BK190.out 0).trans rfl, (blk_cell BK190.out 1).trans rfl⟩ (fun hHeld => ?_); clear hK K; refine znn 8 ?_; refine one_ (i := 3) (N := some 22) #[true, true, true, true, true, false, false] rfl rfl (by kernel_rfl) (by decide) (fun K hK => ?_); refine goes_ Tryd.func49 (by kernel_rfl) rfl #[.agg #[.int .i64 a0_0, .slice A0_1 l0_1.length c0_1]] (by rfl) rfl rfl (by (try simp only [List.map_toArray, List.map_cons, List.map_nil]); first | done | rfl | (simp only [List.length_drop, List.length_take]; rfl)) ?_; with_reducible refine (network_New.calls k a0_0 _ _ l0_1 t192 t193 t196 _ ?side1 ?side2 A5.out).mono ?_
       (case side1 => exact zCb HR0_1 HB); (case side2 => exact HC0_1.out); rintro e w9 ⟨v194, v197, rfl, ho0, ho1, hb⟩; refine ⟨_, rfl, ?_⟩; have HO195 := Aside0.mk (Kd.R_lower ho0 (below_size (zB HB))); have HO198 := Aside0.mk (Kd.R_lower ho1 (below_size (zB HB))); replace BK190 := Aside0.mk (zKb BK190 hb); replace BK199 := Aside0.mk (zKb BK199 hb); replace HB := Aside0.mk (below_step (zB HB) hb); (try clear hb); (try clear hb2); (try clear hk); (try clear hi); (try clear ho0); (try clear ho1); refine hK.out _ _ ⟨(blk_cell BK190.out 0).trans rfl, (blk_cell BK190.out 1).trans rfl⟩ (fun hHeld => ?_); clear hK K; refine znn 22 ?_; exact znj (hCont (v194, v197, gb199) _ ⟨hHeld, (zR HO195), (zR HO198), (zK BK190), (zK BK199), GW199.out, GE199.out, NB190_199.out, NB199_190.out, (zB HB)⟩)
   · refine box_step ?hg (N := 8) ?hd (cs := #[.int .u64 0, .slice none 0 0, .slice none 0 0]) (t := 80) ?hr ?_; (case hd => rfl); (case hg => rfl); (case hr => first | (go_simp; done) | (go_simp; rfl)); intro gb199 hg w8 hbox hb; have BK199 := Aside0.mk (hbox); have GW199 := Aside0.mk (zW hg HB); have GE199 := Aside0.mk (zW hg HB); have NB190_199 := Aside0.mk (zNl hg BK190); have NB199_190 := Aside0.mk (zNr hg BK190); replace BK190 := Aside0.mk (zKb BK190 hb); replace HB := Aside0.mk (below_step (zB HB) hb); clear hb hbox hg; refine hK.out _ _ ⟨(blk_cell BK190.out 0).trans rfl, (blk_cell BK190.out 1).trans rfl⟩ (fun hHeld => ?_); clear hK K; refine znn 8 ?_; refine one_ (i := 1) (N := some 20) #[true, true, true, false, true, false, false] rfl rfl (by kernel_rfl) (by decide) (fun K hK => ?_); refine goes_ Tryd.func48 (by kernel_rfl) rfl #[.slice A1 l1.length c1] (by rfl) rfl rfl (by (try simp only [List.map_toArray, List.map_cons, List.map_nil]); first | done | rfl | (simp only [List.length_drop, List.length_take]; rfl)) ?_; with_reducible refine (network_Of.calls k _ _ l1 t191 _ ?side1 ?side2 A4.out).mono ?_
     (case side1 => exact zCb HR1 HB); (case side2 => exact HC1.out); rintro e w' ⟨rfl, ⟨nd, rfl⟩⟩; refine ⟨_, rfl, ?_⟩; refine hK.out _ _ ⟨(blk_cell BK190.out 0).trans rfl, (blk_cell BK190.out 1).trans rfl⟩ (fun hHeld => ?_); clear hK K; refine znn 20 ?_; refine one_ (i := 3) (N := some 22) #[true, true, true, true, true, false, false] rfl rfl (by kernel_rfl) (by decide) (fun K hK => ?_); refine goes_ Tryd.func49 (by kernel_rfl) rfl #[.agg #[.int .i64 a0_0, .slice A0_1 l0_1.length c0_1]] (by rfl) rfl rfl (by (try simp only [List.map_toArray, List.map_cons, List.map_nil]); first | done | rfl | (simp only [List.length_drop, List.length_take]; rfl)) ?_; with_reducible refine (network_New.calls k a0_0 _ _ l0_1 t192 t193 t196 _ ?side1 ?side2 A5.out).mono ?_
     (case side1 => repeat (first | exact (Kd.C_below HR0_1.out (zB HB)) | (with_reducible refine Kd.C_alloc ?_ _) | (with_reducible refine Kd.C_drewN ?_ _) | (with_reducible refine Kd.C_drew ?_))); (case side2 => exact HC0_1.out); rintro e w9 ⟨v194, v197, rfl, ho0, ho1, hb⟩; refine ⟨_, rfl, ?_⟩; have HO195 := Aside0.mk (Kd.R_lower ho0 (below_size (zB HB))); have HO198 := Aside0.mk (Kd.R_lower ho1 (below_size (zB HB))); replace BK190 := Aside0.mk (zKb BK190 hb); replace BK199 := Aside0.mk (zKb BK199 hb); replace HB := Aside0.mk (below_step (zB HB) hb); (try clear hb); (try clear hb2); (try clear hk); (try clear hi); (try clear ho0); (try clear ho1); refine hK.out _ _ ⟨(blk_cell BK190.out 0).trans rfl, (blk_cell BK190.out 1).trans rfl⟩ (fun hHeld => ?_); clear hK K; refine znn 22 ?_; exact znj (hCont (v194, v197, gb199) _ ⟨hHeld, (zR HO195), (zR HO198), (zK BK190), (zK BK199), GW199.out, GE199.out, NB190_199.out, NB199_190.out, (zB HB)⟩)
 rintro ⟨v194, v197, gb199⟩ w10 ⟨hS_, h0_, h1_, h2_, h3_, h4_, h5_, h6_, h7_, h8_⟩; have HO195 : Aside0 (Kd.R (Kd.int .u64) 76 w10 w.heap.size (fun k_ => some k_ ≠ (v197 : Value).ownBlock) v194 t193) := ⟨h0_⟩; have HO198 : Aside0 (Kd.R (Kd.int .u64) 76 w10 w.heap.size (fun k_ => some k_ ≠ (v194 : Value).ownBlock) v197 t196) := ⟨h1_⟩; have BK199 : Aside0 (w10.heap[gb199]? = some (.cells #[.int .u64 0, .slice none 0 0, .slice none 0 0] 80 (0, 0))) := ⟨h3_⟩; have GW199 : Aside0 (w.heap.size ≤ gb199) := ⟨h4_⟩; have GE199 : Aside0 (w.heap.size ≤ gb199) := ⟨h5_⟩; have NB190_199 : Aside0 (gb190 ≠ gb199) := ⟨h6_⟩; have NB199_190 : Aside0 (gb199 ≠ gb190) := ⟨h7_⟩; replace BK190 : Aside0 (w10.heap[gb190]? = some (.cells #[.int .i64 a0_0, .slice A0_1 l0_1.length c0_1] 24 (0, 0))) := ⟨h2_⟩; replace HB : Aside0 (Below w.heap.size w w10) := ⟨h8_⟩; clear h0_ h1_ h2_ h3_ h4_ h5_ h6_ h7_ h8_; have hHeld : w10.cell? ⟨gb190, 0, none⟩ = some (.int .i64 a0_0) ∧ w10.cell? ⟨gb190, 1, none⟩ = some (.slice A0_1 l0_1.length c0_1) := hS_; obtain ⟨Ao12, co12, eo12⟩ := Kd.R_slice HO195.out; (first | subst eo12 | (injection eo12 with f1_ f2_ f3_; have f4_ := f1_.symm; have f5_ := f3_.symm; clear f1_ f2_ f3_; subst f4_; subst f5_)); obtain ⟨Ao14, co14, eo14⟩ := Kd.R_slice HO198.out; (first | subst eo14 | (injection eo14 with f1_ f2_ f3_; have f4_ := f1_.symm; have f5_ := f3_.symm; clear f1_ f2_ f3_; subst f4_; subst f5_)); refine znb ?_; refine pure_ (i := 5) (N := some 7) (v := ?_) (a' := ?_) #[true, true, true, true, true, true, false] rfl rfl (by kernel_rfl) (fun _ _ _ h => h) (Or.inl ⟨by rfl, ?_⟩) ?_ ?_; rotate_left; · intro w'; go_simp; with_reducible rfl
 rotate_left; · simp only [Act.put, List.setIfInBounds_toArray, List.set_cons_zero, List.set_cons_succ, i64_w, i32_w]; rfl
 refine one_ (i := 6) (N := none) #[true, true, true, true, true, true, true] rfl rfl (by kernel_rfl) (by decide) (fun K hK => ?_); have hs11 := zc BK199 0; have hfs11 := blk_frozen BK199.out 0; have hns11_0 := NB190_199.out; have hms11_0 := NB199_190.out; have hs13 := zc BK199 1; have hfs13 := blk_frozen BK199.out 1; have hns13_0 := NB190_199.out; have hms13_0 := NB199_190.out; have hs15 := zc BK199 2; have hfs15 := blk_frozen BK199.out 2; have hns15_0 := NB190_199.out; have hms15_0 := NB199_190.out; refine skip_ (w1 := ?_) (by rfl) rfl ?_ ?_; rotate_left; · go_simp; rfl
 refine hK.out _ _ ⟨((cell_far (p := ⟨gb199, _, none⟩) NB190_199.out _).trans (((cell_far (p := ⟨gb199, _, none⟩) NB190_199.out _).trans (((cell_far (p := ⟨gb199, _, none⟩) NB190_199.out _).trans (hHeld.1)))))), ((cell_far (p := ⟨gb199, _, none⟩) NB190_199.out _).trans (((cell_far (p := ⟨gb199, _, none⟩) NB190_199.out _).trans (((cell_far (p := ⟨gb199, _, none⟩) NB190_199.out _).trans (hHeld.2))))))⟩ (fun hHeld => ?_); clear hK K; refine done_ (by kernel_rfl) ?_; have hnb16 := NB190_199.out; have hnc16 := NB199_190.out; have hcz17_0 := zc BK190 0; have hcz17_1 := zc BK190 1; have hfz17_0 := blk_frozen BK190.out 0; have hfz17_1 := blk_frozen BK190.out 1; try go_wp2
 go_loopg [9, 26] k (fun kq v9 v26 w' => ∃ (x9_1 : List (List (S42))) (x26_1 : Int), v26 = .int .i64 x26_1 ∧ Aside0 (enforce_duties.l0 kq l1 a2 t191 x9_1 l0_1 (l0_1.length : Int) x26_1 a0_0 l0_1 t192 t193 t196 = some r) ∧ Aside0 (kq ≤ k) ∧ Aside0 (Kd.S (Kd.slice 42 k42) 22 w' w.heap.size (fun _ => True) v9 x9_1) ∧ Aside0 (Kd.R (Kd.int .u64) 76 w' w.heap.size (fun k_ => some k_ ≠ ((.slice Ao14 t196.length co14) : Value).ownBlock) (.slice Ao12 t193.length co12) t193) ∧ Aside0 (Kd.R (Kd.int .u64) 76 w' w.heap.size (fun k_ => some k_ ≠ ((.slice Ao12 t193.length co12) : Value).ownBlock) (.slice Ao14 t196.length co14) t196) ∧ Aside0 (w'.heap[gb190]? = some (.cells #[.int .i64 a0_0, (.slice A0_1 l0_1.length c0_1)] 24 (0, 0))) ∧ Aside0 (w'.heap[gb199]? = some (.cells #[.int .u64 t192, (.slice Ao12 t193.length co12), (.slice Ao14 t196.length co14)] 80 (0, 0))) ∧ Aside0 (Below w.heap.size w w'))
 case atStart => exact ⟨(([] : List (List (S42)))), (0), zv, H', ⟨Nat.le_refl _⟩, ⟨by first | exact Kd.S_nil _ _ _ _ _ | exact Kd.N_nil _ _ _ _ _ | exact Kd.V_nil _ _ _ _ _ | exact Kd.Q_nil _ _ _ _ _ | exact Kd.R_nil _ _ _ _ _ | exact Kd.R_nil _ _ _ 0 _⟩, ⟨by refine zkR ?_; exact Kd.R_mono (Kd.R_far (p := ⟨gb199, 2, none⟩) (Kd.R_far (p := ⟨gb199, 1, none⟩) (Kd.R_far (p := ⟨gb199, 0, none⟩) (Kd.R_types HO195.out BK199.out (by decide)) (fun _ hk => hk.2) (.int .u64 t192)) (fun _ hk => hk.2) (.slice Ao12 t193.length co12)) (fun _ hk => hk.2) (.slice Ao14 t196.length co14)) (fun _ hk => hk.1)⟩, ⟨by refine zkR ?_; exact Kd.R_mono (Kd.R_far (p := ⟨gb199, 2, none⟩) (Kd.R_far (p := ⟨gb199, 1, none⟩) (Kd.R_far (p := ⟨gb199, 0, none⟩) (Kd.R_types HO198.out BK199.out (by decide)) (fun _ hk => hk.2) (.int .u64 t192)) (fun _ hk => hk.2) (.slice Ao12 t193.length co12)) (fun _ hk => hk.2) (.slice Ao14 t196.length co14)) (fun _ hk => hk.1)⟩, ⟨by refine zk ?_; refine blk_far ?_ NB190_199.out _; refine zk ?_; refine blk_far ?_ NB190_199.out _; refine zk ?_; refine blk_far ?_ NB190_199.out _; refine zk ?_; exact BK190.out⟩, ⟨by refine zk ?_; refine blk_put (cs := #[.int .u64 t192, .slice Ao12 t193.length co12, .slice none 0 0]) ?_ 2 _ rfl; refine zk ?_; refine blk_put (cs := #[.int .u64 t192, .slice none 0 0, .slice none 0 0]) ?_ 1 _ rfl; refine zk ?_; refine blk_put (cs := #[.int .u64 0, .slice none 0 0, .slice none 0 0]) ?_ 0 _ rfl; refine zk ?_; exact BK199.out⟩, ⟨zB HB⟩⟩
 case round =>
  clear H'; try clear c1
  try clear p2
  try clear c4
  try clear c5
  try clear c16
  try clear hcz17_0
  try clear hcz17_1
  try clear hfz17_0
  try clear hfz17_1
  obtain ⟨x9_1, x26_1, rfl, HA, HK1, HO_9, HO_200001, HO_200002, BK190, BK199, HB⟩ := hrel; cases gk with
  | zero => exact absurd HA.out (by simp [enforce_duties.l0])
  | succ k1 =>
   have H := HA.out; clear HA; simp only [enforce_duties.l0] at H; by_cases c18 : x26_1 < (l0_1.length : Int)
   · rw [if_pos c18] at H; have c18b0 : decide (x26_1 < (l0_1.length : Int)) = true := decide_eq_true c18; clear c18; by_cases c19 : 0 ≤ x26_1
     · rw [if_pos c19] at H; have c19b0 : decide (0 ≤ x26_1) = true := decide_eq_true c19; clear c19; by_cases c20 : x26_1 < (l0_1.length : Int)
       · rw [if_pos c20] at H; have c20b0 : decide (x26_1 < (l0_1.length : Int)) = true := decide_eq_true c20; clear c20; replace H := Option.bind_eq_some_iff.mp H; obtain ⟨t202, A210, H⟩ := H; replace H : (if t202 = true then ((network_Set_Has.f t191 ((rd_T42 l0_1 x26_1).f1)).bind fun t203 => (if t203 = true then (if x9_1.length < 5864062014805 then (enforce_duties.l0 k1 l1 a2 t191 (x9_1 ++ [(([(⟨(rd_T42 l0_1 x26_1).f0, (rd_T42 l0_1 x26_1).f1⟩ : S42)] : List (S42)))]) l0_1 (l0_1.length : Int) (wrap64 (x26_1 + 1)) a0_0 l0_1 t192 t193 t196) else (none)) else (enforce_duties.l0 k1 l1 a2 t191 x9_1 l0_1 (l0_1.length : Int) (wrap64 (x26_1 + 1)) a0_0 l0_1 t192 t193 t196))) else (enforce_duties.l0 k1 l1 a2 t191 x9_1 l0_1 (l0_1.length : Int) (wrap64 (x26_1 + 1)) a0_0 l0_1 t192 t193 t196)) = some r := H; have A21 := Aside0.mk A210; clear A210; by_cases c22 : t202 = true
         · subst c22; have H1 : ((network_Set_Has.f t191 ((rd_T42 l0_1 x26_1).f1)).bind fun t203 => (if t203 = true then (if x9_1.length < 5864062014805 then (enforce_duties.l0 k1 l1 a2 t191 (x9_1 ++ [(([(⟨(rd_T42 l0_1 x26_1).f0, (rd_T42 l0_1 x26_1).f1⟩ : S42)] : List (S42)))]) l0_1 (l0_1.length : Int) (wrap64 (x26_1 + 1)) a0_0 l0_1 t192 t193 t196) else (none)) else (enforce_duties.l0 k1 l1 a2 t191 x9_1 l0_1 (l0_1.length : Int) (wrap64 (x26_1 + 1)) a0_0 l0_1 t192 t193 t196))) = some r := by rw [if_pos rfl] at H; exact H
           clear H; have H := H1; clear H1; replace H := Option.bind_eq_some_iff.mp H; obtain ⟨t203, A230, H⟩ := H; replace H : (if t203 = true then (if x9_1.length < 5864062014805 then (enforce_duties.l0 k1 l1 a2 t191 (x9_1 ++ [(([(⟨(rd_T42 l0_1 x26_1).f0, (rd_T42 l0_1 x26_1).f1⟩ : S42)] : List (S42)))]) l0_1 (l0_1.length : Int) (wrap64 (x26_1 + 1)) a0_0 l0_1 t192 t193 t196) else (none)) else (enforce_duties.l0 k1 l1 a2 t191 x9_1 l0_1 (l0_1.length : Int) (wrap64 (x26_1 + 1)) a0_0 l0_1 t192 t193 t196)) = some r := H; have A23 := Aside0.mk A230; clear A230; by_cases c24 : t203 = true
           · subst c24; have H1 : (if x9_1.length < 5864062014805 then (enforce_duties.l0 k1 l1 a2 t191 (x9_1 ++ [(([(⟨(rd_T42 l0_1 x26_1).f0, (rd_T42 l0_1 x26_1).f1⟩ : S42)] : List (S42)))]) l0_1 (l0_1.length : Int) (wrap64 (x26_1 + 1)) a0_0 l0_1 t192 t193 t196) else (none)) = some r := by rw [if_pos rfl] at H; exact H
             clear H; have H := H1; clear H1; obtain ⟨y204, hy204⟩ : ∃ y_ : List (S42), y_ = (([(⟨(rd_T42 l0_1 x26_1).f0, (rd_T42 l0_1 x26_1).f1⟩ : S42)] : List (S42))) := ⟨_, rfl⟩; replace H : (if x9_1.length < 5864062014805 then (enforce_duties.l0 k1 l1 a2 t191 (x9_1 ++ [y204]) l0_1 (l0_1.length : Int) (wrap64 (x26_1 + 1)) a0_0 l0_1 t192 t193 t196) else (none)) = some r := by first | (rw [hy204]; with_reducible exact H) | (have H2_ := (Option.bind_some _ _).symm.trans H; rw [hy204]; with_reducible exact H2_) | (have H2_ := (Option.bind_some _ _).symm.trans H; with_reducible exact H2_) | with_reducible exact H | (rw [hy204]; exact H) | exact H
             have Ny204 := Aside0.mk hy204; clear hy204; by_cases c25 : x9_1.length < 5864062014805
             · rw [if_pos c25] at H; have LMc25 := Aside0.mk c25; clear c25; obtain ⟨y207, hy207⟩ : ∃ y_ : List (List (S42)), y_ = (x9_1 ++ [y204]) := ⟨_, rfl⟩; replace H : (enforce_duties.l0 k1 l1 a2 t191 y207 l0_1 (l0_1.length : Int) (wrap64 (x26_1 + 1)) a0_0 l0_1 t192 t193 t196) = some r := by first | (rw [hy207]; with_reducible exact H) | (have H2_ := (Option.bind_some _ _).symm.trans H; rw [hy207]; with_reducible exact H2_) | (have H2_ := (Option.bind_some _ _).symm.trans H; with_reducible exact H2_) | with_reducible exact H | (rw [hy207]; exact H) | exact H
               have Ny207 := Aside0.mk hy207; clear hy207; have H' := Aside0.mk H; clear H; have p200 : 0 ≤ (x26_1 : Int) := of_decide_eq_true (by first | (with_reducible assumption) | assumption); have q200 : x26_1 < (l0_1.length : Int) := of_decide_eq_true (by first | (with_reducible assumption) | assumption); obtain ⟨ad200, e200, hx200_0, hx200_1⟩ := at_T42 HR0_1.out x26_1 p200 q200; cases e200; replace hx200_0 := (HB.out.cell (World.block_lt_of_cell? w _ hx200_0)).trans hx200_0; replace hx200_1 := (HB.out.cell (World.block_lt_of_cell? w _ hx200_1)).trans hx200_1; replace p200 := eq_true p200; replace q200 := eq_true q200; go_wp2_with (first | ((with_reducible refine gate_dst (N := 11) rfl ?_); refine zX (N := 11) (cs := #[.int .i64 0, .int .i64 0]) (t := 42) ?_; intro gb201 hg w26 hbox hb; have BK201 := Aside0.mk (hbox); have GW201 := Aside0.mk (zW hg HB); have GE201 := Aside0.mk (zW hg HB); have NB190_201 := Aside0.mk (zNl hg BK190); have NB201_190 := Aside0.mk (zNr hg BK190); have NB199_201 := Aside0.mk (zNl hg BK199); have NB201_199 := Aside0.mk (zNr hg BK199); replace HO_9 := Aside0.mk (Kd.S_below (Kd.S_elderB (zS HO_9) gb201 (Nat.le_of_eq hg.symm)) hb); replace HO_200001 := Aside0.mk (Kd.R_below (zR HO_200001) hb); replace HO_200002 := Aside0.mk (Kd.R_below (zR HO_200002) hb); replace BK190 := Aside0.mk (zKb BK190 hb); replace BK199 := Aside0.mk (zKb BK199 hb); replace HB := Aside0.mk (below_step (zB HB) hb); clear hb hbox hg; have hnb27 := NB201_190.out; have hnc27 := NB190_201.out; have hnb28 := NB201_199.out; have hnc28 := NB199_201.out; have hcz29_0 := zc BK201 0; have hcz29_1 := zc BK201 1; have hfz29_0 := blk_frozen BK201.out 0; have hfz29_1 := blk_frozen BK201.out 1) | ((with_reducible refine gate_callee (f := 77) rfl ?_); refine zG (some 33) rfl Tryd.func77 #[.int .u64 t191, .int .i64 ((rd_T42 l0_1 x26_1).f0)] ?_; (with_reducible refine (network_Set_Has.calls t191 ((rd_T42 l0_1 x26_1).f0) true _ A21.out).mono ?_); rintro e w' ⟨rfl, ⟨nd, rfl⟩⟩; refine ⟨_, rfl, ?_⟩) | (go_at_call 77; (with_reducible refine (network_Set_Has.calls t191 ((rd_T42 l0_1 x26_1).f1) true _ A23.out).mono ?_); rintro e w' ⟨rfl, ⟨nd, rfl⟩⟩) | ((with_reducible refine gate_dst (N := 42) rfl ?_); refine Kd.R_lit k42 _ 42 ?hg (N := 42) ?hd (xs := ([(⟨(rd_T42 l0_1 x26_1).f0, (rd_T42 l0_1 x26_1).f1⟩ : S42)] : List (S42))) (inner := [.int .i64 ((rd_T42 l0_1 x26_1).f0), .int .i64 ((rd_T42 l0_1 x26_1).f1)]) (ok := fun _ => True) (okp := fun _ => True) ?hr ?hp (fun _ hk => hk) trivial (Below.refl _ _) (Nat.le_refl _) (by simp) ?_; (case hd => rfl); (case hg => rfl); (case hr => first | (go_simp; done) | (go_simp; rfl)); (case hp => exact (Reps.c2 (show Kd.M k42 _ _ _ (⟨(rd_T42 l0_1 x26_1).f0, (rd_T42 l0_1 x26_1).f1⟩ : S42) [.int .i64 ((rd_T42 l0_1 x26_1).f0), .int .i64 ((rd_T42 l0_1 x26_1).f1)] from (k42_mkM _ _ _ (⟨(rd_T42 l0_1 x26_1).f0, (rd_T42 l0_1 x26_1).f1⟩ : S42) )) (Reps.none _ _))); intro v205 w30 ho31 hb hg_ hnew_; clear hg_ hnew_; (first | rw [← Ny204.out] at ho31 | (simp only [Int.reduceToNat] at ho31; rw [← Ny204.out] at ho31)); have HO206 := Aside0.mk (Kd.R_lower (Kd.R_newB ho31 (g := gb201) (o := .cells #[.int .i64 ((rd_T42 l0_1 x26_1).f0), .int .i64 ((rd_T42 l0_1 x26_1).f1)] 42 (0, 0)) (by refine zk ?_; refine blk_put (cs := #[.int .i64 ((rd_T42 l0_1 x26_1).f0), .int .i64 0]) ?_ 1 _ rfl; refine zk ?_; refine blk_put (cs := #[.int .i64 0, .int .i64 0]) ?_ 0 _ rfl; refine zk ?_; exact BK201.out)) (below_size (zB HB))); replace HO_9 := Aside0.mk (Kd.S_elder' (by refine zkS ?_; exact (Kd.S_mono (Kd.S_far (p := ⟨gb201, 1, none⟩) (Kd.S_far (p := ⟨gb201, 0, none⟩) (Kd.S_mono HO_9.out (fun k_ hk => (⟨hk, hk.2⟩ : _ ∧ k_ ≠ gb201))) (fun _ hk => hk.2) (.int .i64 ((rd_T42 l0_1 x26_1).f0))) (fun _ hk => hk.2) (.int .i64 ((rd_T42 l0_1 x26_1).f1))) (fun _ h_ => h_.1))) (Kd.R_base ho31) hb); replace HO_200001 := Aside0.mk (Kd.R_below (by refine zkR ?_; exact (Kd.R_mono (Kd.R_far (p := ⟨gb201, 1, none⟩) (Kd.R_far (p := ⟨gb201, 0, none⟩) (Kd.R_types HO_200001.out BK201.out (by decide)) (fun _ hk => hk.2) (.int .i64 ((rd_T42 l0_1 x26_1).f0))) (fun _ hk => hk.2) (.int .i64 ((rd_T42 l0_1 x26_1).f1))) (fun _ h_ => h_.1))) hb); replace HO_200002 := Aside0.mk (Kd.R_below (by refine zkR ?_; exact (Kd.R_mono (Kd.R_far (p := ⟨gb201, 1, none⟩) (Kd.R_far (p := ⟨gb201, 0, none⟩) (Kd.R_types HO_200002.out BK201.out (by decide)) (fun _ hk => hk.2) (.int .i64 ((rd_T42 l0_1 x26_1).f0))) (fun _ hk => hk.2) (.int .i64 ((rd_T42 l0_1 x26_1).f1))) (fun _ h_ => h_.1))) hb); replace BK190 := Aside0.mk (blk_below (g := gb190) (o := .cells #[.int .i64 a0_0, .slice (some ad200) l0_1.length c0_1] 24 (0, 0)) (by refine zk ?_; refine blk_far ?_ NB190_201.out _; refine zk ?_; refine blk_far ?_ NB190_201.out _; refine zk ?_; exact BK190.out) hb); replace BK199 := Aside0.mk (blk_below (g := gb199) (o := .cells #[.int .u64 t192, .slice Ao12 t193.length co12, .slice Ao14 t196.length co14] 80 (0, 0)) (by refine zk ?_; refine blk_far ?_ NB199_201.out _; refine zk ?_; refine blk_far ?_ NB199_201.out _; refine zk ?_; exact BK199.out) hb); replace BK201 := Aside0.mk (blk_below (g := gb201) (o := .cells #[.int .i64 ((rd_T42 l0_1 x26_1).f0), .int .i64 ((rd_T42 l0_1 x26_1).f1)] 42 (0, 0)) (by refine zk ?_; refine blk_put (cs := #[.int .i64 ((rd_T42 l0_1 x26_1).f0), .int .i64 0]) ?_ 1 _ rfl; refine zk ?_; refine blk_put (cs := #[.int .i64 0, .int .i64 0]) ?_ 0 _ rfl; refine zk ?_; exact BK201.out) hb); replace HB := Aside0.mk (below_step (zB HB) hb); clear hb ho31; obtain ⟨Ao33, co33, eo33⟩ := Kd.R_slice HO206.out; subst eo33) | ((with_reducible refine gate_builtin (b := .append) (xs := #[.tmp 40, .tmp 43]) rfl ?_); at_builtin; refine Kd.S_append (Kd.slice 42 k42) (w0 := w) w.heap.size rfl (.tmp 40) (.tmp 43) 26 22 (.slice none 0 0) 24 rfl Tryd.underlying26 info22 rfl (by decide) (by omega) u9 x9_1 y204 [.slice Ao33 y204.length co33] (fun k_ => k_ ≠ gb201) (fun k_ => some k_ = (.slice Ao33 y204.length co33 : Value).ownBlock) rfl rfl ?aP (fun k_ hk_ => ((Kd.R_mono (ok' := fun k_ => ((fun k_ => k_ ≠ gb201)) k_ ∧ some k_ ≠ (u9 : Value).ownBlock) (Kd.R_apart' (HO206.out) (Kd.S_typed HO_9.out) (by decide)) (fun k_ hk => ⟨hk.1.2, hk.2⟩))).1 k_ hk_.symm) ?aF ?aO ?aB ?aS ?aL ?_; (case aP => exact Kd.M_row (Kd.R_mono (Kd.R_tight rfl (Kd.R_mono (ok' := fun k_ => ((fun k_ => k_ ≠ gb201)) k_ ∧ some k_ ≠ (u9 : Value).ownBlock) (Kd.R_apart' (HO206.out) (Kd.S_typed HO_9.out) (by decide)) (fun k_ hk => ⟨hk.1.2, hk.2⟩))) (fun _ h_ => h_))); (case aB => exact (zB HB)); (case aF => exact (fun k_ hk => Kd.freshB (g := gb201) (o := .cells #[.int .i64 ((rd_T42 l0_1 x26_1).f0), .int .i64 ((rd_T42 l0_1 x26_1).f1)] 42 (0, 0)) (zK BK201) k_ hk)); (case aO => exact (by refine zkS ?_; exact Kd.S_mono HO_9.out (fun k_ hk => ⟨hk.1.2, fun e_ => hk.2 e_⟩))); (case aS => exact (below_size (zB HB))); (case aL => have := LMc25.out; omega); intro v208 w32 ho hb hg hat; rw [← Ny207.out] at ho; have HO209 := Aside0.mk (ho); replace HO_200001 := Aside0.mk (Kd.R_over' (zR HO_200001) (Kd.S_typed (zS HO_9)) (by decide) hg); replace HO_200002 := Aside0.mk (Kd.R_over' (zR HO_200002) (Kd.S_typed (zS HO_9)) (by decide) hg); replace BK190 := Aside0.mk (blk_grown (g := gb190) (o := .cells #[.int .i64 a0_0, .slice (some ad200) l0_1.length c0_1] 24 (0, 0)) (zK BK190) hg (Kd.S_ne HO_9.out BK190.out (by decide))); replace BK199 := Aside0.mk (blk_grown (g := gb199) (o := .cells #[.int .u64 t192, .slice Ao12 t193.length co12, .slice Ao14 t196.length co14] 80 (0, 0)) (zK BK199) hg (Kd.S_ne HO_9.out BK199.out (by decide))); replace BK201 := Aside0.mk (blk_grown (g := gb201) (o := .cells #[.int .i64 ((rd_T42 l0_1 x26_1).f0), .int .i64 ((rd_T42 l0_1 x26_1).f1)] 42 (0, 0)) (zK BK201) hg (Kd.S_ne HO_9.out BK201.out (by decide))); replace HB := Aside0.mk (hb); clear HO_9 HO206; clear ho hb hg hat)); go_roundg k1
               case measure => have := HK1.out; omega
               case rel => exact ⟨(y207), (wrap64 (x26_1 + 1)), zv, H', ⟨by have := HK1.out; omega⟩, ⟨by refine zkS ?_; exact Kd.S_mono HO209.out (fun _ hk => trivial)⟩, ⟨zR HO_200001⟩, ⟨zR HO_200002⟩, ⟨zK BK190⟩, ⟨zK BK199⟩, ⟨zB HB⟩⟩
             · rw [if_neg c25] at H; exact absurd H (by simp)
           · replace c24 := Bool.eq_false_iff.mpr c24; subst c24; have H1 : (enforce_duties.l0 k1 l1 a2 t191 x9_1 l0_1 (l0_1.length : Int) (wrap64 (x26_1 + 1)) a0_0 l0_1 t192 t193 t196) = some r := by rw [if_neg (show ¬ (false = true) by decide)] at H; exact H
             clear H; have H := H1; clear H1; have H' := Aside0.mk H; clear H; have p200 : 0 ≤ (x26_1 : Int) := of_decide_eq_true (by first | (with_reducible assumption) | assumption); have q200 : x26_1 < (l0_1.length : Int) := of_decide_eq_true (by first | (with_reducible assumption) | assumption); obtain ⟨ad200, e200, hx200_0, hx200_1⟩ := at_T42 HR0_1.out x26_1 p200 q200; cases e200; replace hx200_0 := (HB.out.cell (World.block_lt_of_cell? w _ hx200_0)).trans hx200_0; replace hx200_1 := (HB.out.cell (World.block_lt_of_cell? w _ hx200_1)).trans hx200_1; replace p200 := eq_true p200; replace q200 := eq_true q200; go_wp2_with (first | ((with_reducible refine gate_dst (N := 11) rfl ?_); refine zX (N := 11) (cs := #[.int .i64 0, .int .i64 0]) (t := 42) ?_; intro gb201 hg w34 hbox hb; have BK201 := Aside0.mk (hbox); have GW201 := Aside0.mk (zW hg HB); have GE201 := Aside0.mk (zW hg HB); have NB190_201 := Aside0.mk (zNl hg BK190); have NB201_190 := Aside0.mk (zNr hg BK190); have NB199_201 := Aside0.mk (zNl hg BK199); have NB201_199 := Aside0.mk (zNr hg BK199); replace HO_9 := Aside0.mk (Kd.S_below (Kd.S_elderB (zS HO_9) gb201 (Nat.le_of_eq hg.symm)) hb); replace HO_200001 := Aside0.mk (Kd.R_below (zR HO_200001) hb); replace HO_200002 := Aside0.mk (Kd.R_below (zR HO_200002) hb); replace BK190 := Aside0.mk (zKb BK190 hb); replace BK199 := Aside0.mk (zKb BK199 hb); replace HB := Aside0.mk (below_step (zB HB) hb); clear hb hbox hg; have hnb35 := NB201_190.out; have hnc35 := NB190_201.out; have hnb36 := NB201_199.out; have hnc36 := NB199_201.out; have hcz37_0 := zc BK201 0; have hcz37_1 := zc BK201 1; have hfz37_0 := blk_frozen BK201.out 0; have hfz37_1 := blk_frozen BK201.out 1) | ((with_reducible refine gate_callee (f := 77) rfl ?_); refine zG (some 33) rfl Tryd.func77 #[.int .u64 t191, .int .i64 ((rd_T42 l0_1 x26_1).f0)] ?_; (with_reducible refine (network_Set_Has.calls t191 ((rd_T42 l0_1 x26_1).f0) true _ A21.out).mono ?_); rintro e w' ⟨rfl, ⟨nd, rfl⟩⟩; refine ⟨_, rfl, ?_⟩) | (go_at_call 77; (with_reducible refine (network_Set_Has.calls t191 ((rd_T42 l0_1 x26_1).f1) false _ A23.out).mono ?_); rintro e w' ⟨rfl, ⟨nd, rfl⟩⟩)); go_roundg k1
             case measure => have := HK1.out; omega
             case rel => exact ⟨(x9_1), (wrap64 (x26_1 + 1)), zv, H', ⟨by have := HK1.out; omega⟩, ⟨by refine zkS ?_; exact Kd.S_mono (Kd.S_far (p := ⟨gb201, 1, none⟩) (Kd.S_far (p := ⟨gb201, 0, none⟩) (Kd.S_mono HO_9.out (fun k_ hk => (⟨hk, hk.2⟩ : _ ∧ k_ ≠ gb201))) (fun _ hk => hk.2) (.int .i64 ((rd_T42 l0_1 x26_1).f0))) (fun _ hk => hk.2) (.int .i64 ((rd_T42 l0_1 x26_1).f1))) (fun _ hk => trivial)⟩, ⟨by refine zkR ?_; exact Kd.R_mono (Kd.R_far (p := ⟨gb201, 1, none⟩) (Kd.R_far (p := ⟨gb201, 0, none⟩) (Kd.R_types HO_200001.out BK201.out (by decide)) (fun _ hk => hk.2) (.int .i64 ((rd_T42 l0_1 x26_1).f0))) (fun _ hk => hk.2) (.int .i64 ((rd_T42 l0_1 x26_1).f1))) (fun _ hk => hk.1)⟩, ⟨by refine zkR ?_; exact Kd.R_mono (Kd.R_far (p := ⟨gb201, 1, none⟩) (Kd.R_far (p := ⟨gb201, 0, none⟩) (Kd.R_types HO_200002.out BK201.out (by decide)) (fun _ hk => hk.2) (.int .i64 ((rd_T42 l0_1 x26_1).f0))) (fun _ hk => hk.2) (.int .i64 ((rd_T42 l0_1 x26_1).f1))) (fun _ hk => hk.1)⟩, ⟨by refine zk ?_; refine blk_far ?_ NB190_201.out _; refine zk ?_; refine blk_far ?_ NB190_201.out _; refine zk ?_; exact BK190.out⟩, ⟨by refine zk ?_; refine blk_far ?_ NB199_201.out _; refine zk ?_; refine blk_far ?_ NB199_201.out _; refine zk ?_; exact BK199.out⟩, ⟨zB HB⟩⟩
         · replace c22 := Bool.eq_false_iff.mpr c22; subst c22; have H1 : (enforce_duties.l0 k1 l1 a2 t191 x9_1 l0_1 (l0_1.length : Int) (wrap64 (x26_1 + 1)) a0_0 l0_1 t192 t193 t196) = some r := by rw [if_neg (show ¬ (false = true) by decide)] at H; exact H
           clear H; have H := H1; clear H1; have H' := Aside0.mk H; clear H; have p200 : 0 ≤ (x26_1 : Int) := of_decide_eq_true (by first | (with_reducible assumption) | assumption); have q200 : x26_1 < (l0_1.length : Int) := of_decide_eq_true (by first | (with_reducible assumption) | assumption); obtain ⟨ad200, e200, hx200_0, hx200_1⟩ := at_T42 HR0_1.out x26_1 p200 q200; cases e200; replace hx200_0 := (HB.out.cell (World.block_lt_of_cell? w _ hx200_0)).trans hx200_0; replace hx200_1 := (HB.out.cell (World.block_lt_of_cell? w _ hx200_1)).trans hx200_1; replace p200 := eq_true p200; replace q200 := eq_true q200; go_wp2_with (first | ((with_reducible refine gate_dst (N := 11) rfl ?_); refine zX (N := 11) (cs := #[.int .i64 0, .int .i64 0]) (t := 42) ?_; intro gb201 hg w38 hbox hb; have BK201 := Aside0.mk (hbox); have GW201 := Aside0.mk (zW hg HB); have GE201 := Aside0.mk (zW hg HB); have NB190_201 := Aside0.mk (zNl hg BK190); have NB201_190 := Aside0.mk (zNr hg BK190); have NB199_201 := Aside0.mk (zNl hg BK199); have NB201_199 := Aside0.mk (zNr hg BK199); replace HO_9 := Aside0.mk (Kd.S_below (Kd.S_elderB (zS HO_9) gb201 (Nat.le_of_eq hg.symm)) hb); replace HO_200001 := Aside0.mk (Kd.R_below (zR HO_200001) hb); replace HO_200002 := Aside0.mk (Kd.R_below (zR HO_200002) hb); replace BK190 := Aside0.mk (zKb BK190 hb); replace BK199 := Aside0.mk (zKb BK199 hb); replace HB := Aside0.mk (below_step (zB HB) hb); clear hb hbox hg; have hnb39 := NB201_190.out; have hnc39 := NB190_201.out; have hnb40 := NB201_199.out; have hnc40 := NB199_201.out; have hcz41_0 := zc BK201 0; have hcz41_1 := zc BK201 1; have hfz41_0 := blk_frozen BK201.out 0; have hfz41_1 := blk_frozen BK201.out 1) | ((with_reducible refine gate_callee (f := 77) rfl ?_); refine zG (some 33) rfl Tryd.func77 #[.int .u64 t191, .int .i64 ((rd_T42 l0_1 x26_1).f0)] ?_; (with_reducible refine (network_Set_Has.calls t191 ((rd_T42 l0_1 x26_1).f0) false _ A21.out).mono ?_); rintro e w' ⟨rfl, ⟨nd, rfl⟩⟩; refine ⟨_, rfl, ?_⟩)); go_roundg k1
           case measure => have := HK1.out; omega
           case rel => exact ⟨(x9_1), (wrap64 (x26_1 + 1)), zv, H', ⟨by have := HK1.out; omega⟩, ⟨by refine zkS ?_; exact Kd.S_mono (Kd.S_far (p := ⟨gb201, 1, none⟩) (Kd.S_far (p := ⟨gb201, 0, none⟩) (Kd.S_mono HO_9.out (fun k_ hk => (⟨hk, hk.2⟩ : _ ∧ k_ ≠ gb201))) (fun _ hk => hk.2) (.int .i64 ((rd_T42 l0_1 x26_1).f0))) (fun _ hk => hk.2) (.int .i64 ((rd_T42 l0_1 x26_1).f1))) (fun _ hk => trivial)⟩, ⟨by refine zkR ?_; exact Kd.R_mono (Kd.R_far (p := ⟨gb201, 1, none⟩) (Kd.R_far (p := ⟨gb201, 0, none⟩) (Kd.R_types HO_200001.out BK201.out (by decide)) (fun _ hk => hk.2) (.int .i64 ((rd_T42 l0_1 x26_1).f0))) (fun _ hk => hk.2) (.int .i64 ((rd_T42 l0_1 x26_1).f1))) (fun _ hk => hk.1)⟩, ⟨by refine zkR ?_; exact Kd.R_mono (Kd.R_far (p := ⟨gb201, 1, none⟩) (Kd.R_far (p := ⟨gb201, 0, none⟩) (Kd.R_types HO_200002.out BK201.out (by decide)) (fun _ hk => hk.2) (.int .i64 ((rd_T42 l0_1 x26_1).f0))) (fun _ hk => hk.2) (.int .i64 ((rd_T42 l0_1 x26_1).f1))) (fun _ hk => hk.1)⟩, ⟨by refine zk ?_; refine blk_far ?_ NB190_201.out _; refine zk ?_; refine blk_far ?_ NB190_201.out _; refine zk ?_; exact BK190.out⟩, ⟨by refine zk ?_; refine blk_far ?_ NB199_201.out _; refine zk ?_; refine blk_far ?_ NB199_201.out _; refine zk ?_; exact BK199.out⟩, ⟨zB HB⟩⟩
       · rw [if_neg c20] at H; exact absurd H (by simp)
     · rw [if_neg c19] at H; exact absurd H (by simp)
   · rw [if_neg c18] at H; have c18b0 : decide (x26_1 < (l0_1.length : Int)) = false := decide_eq_false c18; clear c18; replace H := Option.bind_eq_some_iff.mp H; obtain ⟨t210, A420, H⟩ := H; replace H : (enforce_duties.l1 k1 l1 a2 t191 x9_1 t210 a0_0 0 t192 t193 t196) = some r := H; have A42 := Aside0.mk A420; clear A420; have H' := Aside0.mk H; clear H; have hnb43 := NB199_190.out; have hnc43 := NB190_199.out; have hcz44_0 := zc BK199 0; have hcz44_1 := zc BK199 1; have hcz44_2 := zc BK199 2; have hfz44_0 := blk_frozen BK199.out 0; have hfz44_1 := blk_frozen BK199.out 1; have hfz44_2 := blk_frozen BK199.out 2; go_wp2_with (first | ((with_reducible refine gate_callee (f := 79) rfl ?_); refine zG (some 48) rfl Tryd.func79 #[.agg #[.int .u64 t192, .slice Ao12 t193.length co12, .slice Ao14 t196.length co14], .int .u64 t191] ?_; (with_reducible refine (network_Net_Hit.calls k1 t192 _ _ t193 _ _ t196 t191 t210 _ ?side1 ?side2 ?side3 ?side4 ?side5 A42.out).mono ?_); (case side1 => repeat (first | exact (Kd.R_reads' HO_200001.out).2.2 | (with_reducible refine Kd.C_alloc ?_ _) | (with_reducible refine Kd.C_drewN ?_ _) | (with_reducible refine Kd.C_drew ?_))); (case side2 => exact (Kd.R_reads' HO_200001.out).2.1); (case side3 => repeat (first | exact (Kd.R_reads' HO_200002.out).2.2 | (with_reducible refine Kd.C_alloc ?_ _) | (with_reducible refine Kd.C_drewN ?_ _) | (with_reducible refine Kd.C_drew ?_))); (case side4 => exact (Kd.R_reads' HO_200002.out).2.1); (case side5 => exact TabT.now HTab.out (zB HB)); rintro e w45 ⟨rfl, hb⟩; refine ⟨_, rfl, ?_⟩; replace HO_9 := Aside0.mk (Kd.S_below (zS HO_9) hb); replace HO_200001 := Aside0.mk (Kd.R_below (zR HO_200001) hb); replace HO_200002 := Aside0.mk (Kd.R_below (zR HO_200002) hb); replace BK190 := Aside0.mk (zKb BK190 hb); replace BK199 := Aside0.mk (zKb BK199 hb); replace HB := Aside0.mk (below_step (zB HB) hb); (try clear hb); (try clear hb2); (try clear hk); (try clear hi); have hcz46_0 := zc BK190 0; have hcz46_1 := zc BK190 1; have hfz46_0 := blk_frozen BK190.out 0; have hfz46_1 := blk_frozen BK190.out 1)); go_loopg [9, 51] k1 (fun kq v9 v51 w' => ∃ (x9_2 : List (List (S42))) (x51_2 : Int), v51 = .int .i64 x51_2 ∧ Aside0 (enforce_duties.l1 kq l1 a2 t191 x9_2 t210 a0_0 x51_2 t192 t193 t196 = some r) ∧ Aside0 (kq ≤ k1) ∧ Aside0 (Kd.S (Kd.slice 42 k42) 22 w' w.heap.size (fun _ => True) v9 x9_2) ∧ Aside0 (Kd.R (Kd.int .u64) 76 w' w.heap.size (fun k_ => some k_ ≠ ((.slice Ao14 t196.length co14) : Value).ownBlock) (.slice Ao12 t193.length co12) t193) ∧ Aside0 (Kd.R (Kd.int .u64) 76 w' w.heap.size (fun k_ => some k_ ≠ ((.slice Ao12 t193.length co12) : Value).ownBlock) (.slice Ao14 t196.length co14) t196) ∧ Aside0 (w'.heap[gb190]? = some (.cells #[.int .i64 a0_0, (.slice A0_1 l0_1.length c0_1)] 24 (0, 0))) ∧ Aside0 (w'.heap[gb199]? = some (.cells #[.int .u64 t192, (.slice Ao12 t193.length co12), (.slice Ao14 t196.length co14)] 80 (0, 0))) ∧ Aside0 (Below w.heap.size w w'))
     case atStart => exact ⟨(x9_1), (0), zv, H', ⟨Nat.le_refl _⟩, ⟨zS HO_9⟩, ⟨zR HO_200001⟩, ⟨zR HO_200002⟩, ⟨zK BK190⟩, ⟨zK BK199⟩, ⟨zB HB⟩⟩
     case round =>
      clear H'; try clear c1
      try clear c2
      try clear p2
      try clear q2
      try clear hx2
      try clear c3
      try clear c4
      try clear c5
      try clear p6
      try clear c7
      try clear c16
      try clear c18
      try clear c18b0
      try clear c19
      try clear c19b0
      try clear c20
      try clear c20b0
      try clear p20
      try clear q20
      try clear hx20
      try clear c22
      try clear c24
      try clear c25
      try clear c27
      try clear c28
      try clear c35
      try clear c36
      try clear c39
      try clear c40
      try clear c43
      try clear hcz17_0
      try clear hcz17_1
      try clear hcz29_0
      try clear hcz29_1
      try clear hcz37_0
      try clear hcz37_1
      try clear hcz41_0
      try clear hcz41_1
      try clear hcz44_0
      try clear hcz44_1
      try clear hcz44_2
      try clear hcz46_0
      try clear hcz46_1
      try clear hfz17_0
      try clear hfz17_1
      try clear hfz29_0
      try clear hfz29_1
      try clear hfz37_0
      try clear hfz37_1
      try clear hfz41_0
      try clear hfz41_1
      try clear hfz44_0
      try clear hfz44_1
      try clear hfz44_2
      try clear hfz46_0
      try clear hfz46_1
      try clear hx200_0
      try clear hx200_1
      try clear p2
      try clear p200
      try clear q200
      obtain ⟨x9_2, x51_2, rfl, HA, HK2, HO_9, HO_200001, HO_200002, BK190, BK199, HB⟩ := hrel; cases gk with
      | zero => exact absurd HA.out (by simp [enforce_duties.l1])
      | succ k2 =>
       have H := HA.out; clear HA; simp only [enforce_duties.l1] at H; by_cases c47 : x51_2 < a0_0
       · rw [if_pos c47] at H; have c47b0 : decide (x51_2 < a0_0) = true := decide_eq_true c47; clear c47; have HC48 := Aside0.mk H; clear H; go_upto_region 13 with (fail)
         go_cut [75] (fun v75 wc => ∃ (kq : Nat) (x75_47 : Bool), v75 = .bool x75_47 ∧ Aside0 (enforce_duties.j2 kq l1 a2 t191 x9_2 t210 x51_2 a0_0 x51_2 x75_47 t192 t193 t196 = some r) ∧ Aside0 (kq ≤ k2) ∧ Aside0 (Kd.S (Kd.slice 42 k42) 22 wc w.heap.size (fun _ => True) u9 x9_2) ∧ Aside0 (Kd.R (Kd.int .u64) 76 wc w.heap.size (fun k_ => some k_ ≠ ((.slice Ao14 t196.length co14) : Value).ownBlock) (.slice Ao12 t193.length co12) t193) ∧ Aside0 (Kd.R (Kd.int .u64) 76 wc w.heap.size (fun k_ => some k_ ≠ ((.slice Ao12 t193.length co12) : Value).ownBlock) (.slice Ao14 t196.length co14) t196) ∧ Aside0 (wc.heap[gb190]? = some (.cells #[.int .i64 a0_0, (.slice A0_1 l0_1.length c0_1)] 24 (0, 0))) ∧ Aside0 (wc.heap[gb199]? = some (.cells #[.int .u64 t192, (.slice Ao12 t193.length co12), (.slice Ao14 t196.length co14)] 80 (0, 0))) ∧ Aside0 (Below w.heap.size w wc))
         case first =>
          have H := HC48.out; clear HC48; replace H := Option.bind_eq_some_iff.mp H; obtain ⟨t211, A490, H⟩ := H; replace H : (if t211 = true then (enforce_duties.j2 k2 l1 a2 t191 x9_2 t210 x51_2 a0_0 x51_2 true t192 t193 t196) else ((network_Set_Has.f t210 x51_2).bind fun t212 => (if t212 = true then (enforce_duties.j2 k2 l1 a2 t191 x9_2 t210 x51_2 a0_0 x51_2 true t192 t193 t196) else (if a2 = 1 then (if 0 ≤ x51_2 then (if x51_2 < (t196.length : Int) then (enforce_duties.j2 k2 l1 a2 t191 x9_2 t210 x51_2 a0_0 x51_2 ((Go.bits .and .u64 (rd t196 x51_2) t191) == 0) t192 t193 t196) else (none)) else (none)) else (enforce_duties.j2 k2 l1 a2 t191 x9_2 t210 x51_2 a0_0 x51_2 false t192 t193 t196))))) = some r := H; have A49 := Aside0.mk A490; clear A490; by_cases c50 : t211 = true
          · subst c50; have H1 : (enforce_duties.j2 k2 l1 a2 t191 x9_2 t210 x51_2 a0_0 x51_2 true t192 t193 t196) = some r := by rw [if_pos rfl] at H; exact H
            clear H; have H := H1; clear H1; have H' := Aside0.mk H; clear H; go_wp2_with (first | ((with_reducible refine gate_callee (f := 77) rfl ?_); refine zG (some 56) rfl Tryd.func77 #[.int .u64 t191, .int .i64 x51_2] ?_; (with_reducible refine (network_Set_Has.calls t191 x51_2 true _ A49.out).mono ?_); rintro e w' ⟨rfl, ⟨nd, rfl⟩⟩; refine ⟨_, rfl, ?_⟩)); go_meet
            case rel => exact ⟨_, (true), zv, H', ⟨by have := HK1.out; have := HK2.out; first | omega | exact Nat.le_refl _⟩, ⟨zS HO_9⟩, ⟨zR HO_200001⟩, ⟨zR HO_200002⟩, ⟨zK BK190⟩, ⟨zK BK199⟩, ⟨zB HB⟩⟩
          · replace c50 := Bool.eq_false_iff.mpr c50; subst c50; have H1 : ((network_Set_Has.f t210 x51_2).bind fun t212 => (if t212 = true then (enforce_duties.j2 k2 l1 a2 t191 x9_2 t210 x51_2 a0_0 x51_2 true t192 t193 t196) else (if a2 = 1 then (if 0 ≤ x51_2 then (if x51_2 < (t196.length : Int) then (enforce_duties.j2 k2 l1 a2 t191 x9_2 t210 x51_2 a0_0 x51_2 ((Go.bits .and .u64 (rd t196 x51_2) t191) == 0) t192 t193 t196) else (none)) else (none)) else (enforce_duties.j2 k2 l1 a2 t191 x9_2 t210 x51_2 a0_0 x51_2 false t192 t193 t196)))) = some r := by rw [if_neg (show ¬ (false = true) by decide)] at H; exact H
            clear H; have H := H1; clear H1; replace H := Option.bind_eq_some_iff.mp H; obtain ⟨t212, A510, H⟩ := H; replace H : (if t212 = true then (enforce_duties.j2 k2 l1 a2 t191 x9_2 t210 x51_2 a0_0 x51_2 true t192 t193 t196) else (if a2 = 1 then (if 0 ≤ x51_2 then (if x51_2 < (t196.length : Int) then (enforce_duties.j2 k2 l1 a2 t191 x9_2 t210 x51_2 a0_0 x51_2 ((Go.bits .and .u64 (rd t196 x51_2) t191) == 0) t192 t193 t196) else (none)) else (none)) else (enforce_duties.j2 k2 l1 a2 t191 x9_2 t210 x51_2 a0_0 x51_2 false t192 t193 t196))) = some r := H; have A51 := Aside0.mk A510; clear A510; by_cases c52 : t212 = true
            · subst c52; have H1 : (enforce_duties.j2 k2 l1 a2 t191 x9_2 t210 x51_2 a0_0 x51_2 true t192 t193 t196) = some r := by rw [if_pos rfl] at H; exact H
              clear H; have H := H1; clear H1; have H' := Aside0.mk H; clear H; go_wp2_with (first | ((with_reducible refine gate_callee (f := 77) rfl ?_); refine zG (some 56) rfl Tryd.func77 #[.int .u64 t191, .int .i64 x51_2] ?_; (with_reducible refine (network_Set_Has.calls t191 x51_2 false _ A49.out).mono ?_); rintro e w' ⟨rfl, ⟨nd, rfl⟩⟩; refine ⟨_, rfl, ?_⟩) | (go_at_call 77; (with_reducible refine (network_Set_Has.calls t210 x51_2 true _ A51.out).mono ?_); rintro e w' ⟨rfl, ⟨nd, rfl⟩⟩)); go_meet
              case rel => exact ⟨_, (true), zv, H', ⟨by have := HK1.out; have := HK2.out; first | omega | exact Nat.le_refl _⟩, ⟨zS HO_9⟩, ⟨zR HO_200001⟩, ⟨zR HO_200002⟩, ⟨zK BK190⟩, ⟨zK BK199⟩, ⟨zB HB⟩⟩
            · replace c52 := Bool.eq_false_iff.mpr c52; subst c52; have H1 : (if a2 = 1 then (if 0 ≤ x51_2 then (if x51_2 < (t196.length : Int) then (enforce_duties.j2 k2 l1 a2 t191 x9_2 t210 x51_2 a0_0 x51_2 ((Go.bits .and .u64 (rd t196 x51_2) t191) == 0) t192 t193 t196) else (none)) else (none)) else (enforce_duties.j2 k2 l1 a2 t191 x9_2 t210 x51_2 a0_0 x51_2 false t192 t193 t196)) = some r := by rw [if_neg (show ¬ (false = true) by decide)] at H; exact H
              clear H; have H := H1; clear H1; by_cases c53 : a2 = 1
              · rw [if_pos c53] at H; have c53b0 : (a2 == 1) = true := beq_iff_eq.mpr c53; have c53b1 : (a2 != 1) = false := bne_eq_false_iff_eq.mpr c53; clear c53; (first | rw [c53b0] | (simp only [i64_w, i32_w]; rw [c53b0]) | skip); by_cases c54 : 0 ≤ x51_2
                · rw [if_pos c54] at H; have c54b0 : decide (0 ≤ x51_2) = true := decide_eq_true c54; clear c54; by_cases c55 : x51_2 < (t196.length : Int)
                  · rw [if_pos c55] at H; have c55b0 : decide (x51_2 < (t196.length : Int)) = true := decide_eq_true c55; clear c55; have H' := Aside0.mk H; clear H; go_wp2_with (first | ((with_reducible refine gate_callee (f := 77) rfl ?_); refine zG (some 56) rfl Tryd.func77 #[.int .u64 t191, .int .i64 x51_2] ?_; (with_reducible refine (network_Set_Has.calls t191 x51_2 false _ A49.out).mono ?_); rintro e w' ⟨rfl, ⟨nd, rfl⟩⟩; refine ⟨_, rfl, ?_⟩) | (go_at_call 77; (with_reducible refine (network_Set_Has.calls t210 x51_2 false _ A51.out).mono ?_); rintro e w' ⟨rfl, ⟨nd, rfl⟩⟩; have hnb56 := NB199_190.out; have hnc56 := NB190_199.out; have hcz57_0 := zc BK199 0; have hcz57_1 := zc BK199 1; have hcz57_2 := zc BK199 2; have hfz57_0 := blk_frozen BK199.out 0; have hfz57_1 := blk_frozen BK199.out 1; have hfz57_2 := blk_frozen BK199.out 2; have p213 : 0 ≤ (x51_2 : Int) := of_decide_eq_true (by first | (with_reducible assumption) | assumption); have q213 : x51_2 < (t196.length : Int) := of_decide_eq_true (by first | (with_reducible assumption) | assumption); obtain ⟨ad213, e213, hx213_0⟩ := Kd.at_int (Kd.R_reads' HO_200002.out).2.2 x51_2 p213 q213; cases e213; replace p213 := eq_true p213; replace q213 := eq_true q213)); go_meet
                    case rel => exact ⟨_, (((Go.bits .and .u64 (rd t196 x51_2) t191) == 0)), zv, H', ⟨by have := HK1.out; have := HK2.out; first | omega | exact Nat.le_refl _⟩, ⟨zS HO_9⟩, ⟨zR HO_200001⟩, ⟨zR HO_200002⟩, ⟨zK BK190⟩, ⟨zK BK199⟩, ⟨zB HB⟩⟩
                  · rw [if_neg c55] at H; exact absurd H (by simp)
                · rw [if_neg c54] at H; exact absurd H (by simp)
              · rw [if_neg c53] at H; have c53b0 : (a2 == 1) = false := beq_eq_false_iff_ne.mpr c53; have c53b1 : (a2 != 1) = true := bne_iff_ne.mpr c53; (first | rw [c53b0] | (simp only [i64_w, i32_w]; rw [c53b0]) | skip); have H' := Aside0.mk H; clear H; go_wp2_with (first | ((with_reducible refine gate_callee (f := 77) rfl ?_); refine zG (some 56) rfl Tryd.func77 #[.int .u64 t191, .int .i64 x51_2] ?_; (with_reducible refine (network_Set_Has.calls t191 x51_2 false _ A49.out).mono ?_); rintro e w' ⟨rfl, ⟨nd, rfl⟩⟩; refine ⟨_, rfl, ?_⟩) | (go_at_call 77; (with_reducible refine (network_Set_Has.calls t210 x51_2 false _ A51.out).mono ?_); rintro e w' ⟨rfl, ⟨nd, rfl⟩⟩)); go_meet
                case rel => exact ⟨_, (false), zv, H', ⟨by have := HK1.out; have := HK2.out; first | omega | exact Nat.le_refl _⟩, ⟨zS HO_9⟩, ⟨zR HO_200001⟩, ⟨zR HO_200002⟩, ⟨zK BK190⟩, ⟨zK BK199⟩, ⟨zB HB⟩⟩
         case rest =>
          clear HC48; try clear c1
          try clear c2
          try clear p2
          try clear q2
          try clear hx2
          try clear c3
          try clear c4
          try clear c5
          try clear p6
          try clear c7
          try clear c16
          try clear c18
          try clear c18b0
          try clear c19
          try clear c19b0
          try clear c20
          try clear c20b0
          try clear p20
          try clear q20
          try clear hx20
          try clear p21
          try clear q21
          try clear hx21
          try clear c22
          try clear c24
          try clear c25
          try clear c27
          try clear c28
          try clear c35
          try clear c36
          try clear c39
          try clear c40
          try clear c43
          try clear c47
          try clear c47b0
          try clear c48
          try clear c49
          try clear c50
          try clear c52
          try clear c53
          try clear c53b0
          try clear c53b1
          try clear c54
          try clear c54b0
          try clear c55
          try clear c55b0
          try clear c56
          try clear hcz17_0
          try clear hcz17_1
          try clear hcz29_0
          try clear hcz29_1
          try clear hcz37_0
          try clear hcz37_1
          try clear hcz41_0
          try clear hcz41_1
          try clear hcz44_0
          try clear hcz44_1
          try clear hcz44_2
          try clear hcz46_0
          try clear hcz46_1
          try clear hcz57_0
          try clear hcz57_1
          try clear hcz57_2
          try clear hfz17_0
          try clear hfz17_1
          try clear hfz29_0
          try clear hfz29_1
          try clear hfz37_0
          try clear hfz37_1
          try clear hfz41_0
          try clear hfz41_1
          try clear hfz44_0
          try clear hfz44_1
          try clear hfz44_2
          try clear hfz46_0
          try clear hfz46_1
          try clear hfz57_0
          try clear hfz57_1
          try clear hfz57_2
          try clear hx200_0
          try clear hx200_1
          try clear hx213_0
          try clear p2
          try clear p20
          try clear p200
          try clear p213
          try clear p6
          try clear q2
          try clear q20
          try clear q200
          try clear q213
          obtain ⟨kq, x75_47, rfl, HA, HJ47, HO_9, HO_200001, HO_200002, BK190, BK199, HB⟩ := hcut; cases kq with
          | zero => exact absurd HA.out (by simp [enforce_duties.j2])
          | succ kj47 =>
           have H := HA.out; clear HA; simp only [enforce_duties.j2] at H; by_cases c58 : x75_47 = true
           · subst c58; have H1 : (enforce_duties.l1 kj47 l1 a2 t191 x9_2 t210 a0_0 (wrap64 (x51_2 + 1)) t192 t193 t196) = some r := by rw [if_pos rfl] at H; exact H
             clear H; have H := H1; clear H1; have H' := Aside0.mk H; clear H; go_wp2; go_roundg kj47
             case measure => have := HK1.out; have := HK2.out; have := HJ47.out; omega
             case rel => exact ⟨(x9_2), (wrap64 (x51_2 + 1)), zv, H', ⟨by have := HK1.out; have := HK2.out; have := HJ47.out; omega⟩, ⟨zS HO_9⟩, ⟨zR HO_200001⟩, ⟨zR HO_200002⟩, ⟨zK BK190⟩, ⟨zK BK199⟩, ⟨zB HB⟩⟩
           · replace c58 := Bool.eq_false_iff.mpr c58; subst c58; have H1 : (enforce_duties.l2 kj47 l1 a2 t191 x9_2 t210 x51_2 ([] : List (S42)) a0_0 x51_2 l1 (l1.length : Int) 0 t192 t193 t196) = some r := by rw [if_neg (show ¬ (false = true) by decide)] at H; exact H
             clear H; have H := H1; clear H1; have H' := Aside0.mk H; clear H; go_wp2; go_loopg [14, 78] kj47 (fun kq v14 v78 w' => ∃ (x14_4 : List (S42)) (x78_4 : Int), v78 = .int .i64 x78_4 ∧ Aside0 (enforce_duties.l2 kq l1 a2 t191 x9_2 t210 x51_2 x14_4 a0_0 x51_2 l1 (l1.length : Int) x78_4 t192 t193 t196 = some r) ∧ Aside0 (kq ≤ kj47) ∧ Aside0 (Kd.S (Kd.slice 42 k42) 22 w' w.heap.size (fun k_ => some k_ ≠ (v14 : Value).ownBlock) u9 x9_2) ∧ Aside0 (Kd.R k42 42 w' w.heap.size (fun _ => True) v14 x14_4) ∧ Aside0 (Kd.R (Kd.int .u64) 76 w' w.heap.size (fun k_ => some k_ ≠ ((.slice Ao14 t196.length co14) : Value).ownBlock) (.slice Ao12 t193.length co12) t193) ∧ Aside0 (Kd.R (Kd.int .u64) 76 w' w.heap.size (fun k_ => some k_ ≠ ((.slice Ao12 t193.length co12) : Value).ownBlock) (.slice Ao14 t196.length co14) t196) ∧ Aside0 (w'.heap[gb190]? = some (.cells #[.int .i64 a0_0, (.slice A0_1 l0_1.length c0_1)] 24 (0, 0))) ∧ Aside0 (w'.heap[gb199]? = some (.cells #[.int .u64 t192, (.slice Ao12 t193.length co12), (.slice Ao14 t196.length co14)] 80 (0, 0))) ∧ Aside0 (Below w.heap.size w w'))
             case atStart => exact ⟨(([] : List (S42))), (0), zv, H', ⟨Nat.le_refl _⟩, ⟨by refine zkS ?_; exact Kd.S_mono HO_9.out (fun _ hk => (by simp [Value.ownBlock]))⟩, ⟨by first | exact Kd.R_nil _ _ _ _ _ | exact Kd.N_nil _ _ _ _ _ | exact Kd.V_nil _ _ _ _ _ | exact Kd.Q_nil _ _ _ _ _ | exact Kd.S_nil _ _ _ _ _ | exact Kd.R_nil _ _ _ 0 _⟩, ⟨zR HO_200001⟩, ⟨zR HO_200002⟩, ⟨zK BK190⟩, ⟨zK BK199⟩, ⟨zB HB⟩⟩
             case round =>
              clear H'; try clear c1
              try clear c2
              try clear p2
              try clear q2
              try clear hx2
              try clear c3
              try clear c4
              try clear c5
              try clear p6
              try clear c7
              try clear c16
              try clear c18
              try clear c18b0
              try clear c19
              try clear c19b0
              try clear c20
              try clear c20b0
              try clear p20
              try clear q20
              try clear hx20
              try clear p21
              try clear q21
              try clear hx21
              try clear c22
              try clear c24
              try clear c25
              try clear c27
              try clear c28
              try clear c35
              try clear c36
              try clear c39
              try clear c40
              try clear c43
              try clear c47
              try clear c47b0
              try clear c48
              try clear c49
              try clear c50
              try clear c52
              try clear c53
              try clear c53b0
              try clear c53b1
              try clear c54
              try clear c54b0
              try clear c55
              try clear c55b0
              try clear c56
              try clear c58
              try clear hcz17_0
              try clear hcz17_1
              try clear hcz29_0
              try clear hcz29_1
              try clear hcz37_0
              try clear hcz37_1
              try clear hcz41_0
              try clear hcz41_1
              try clear hcz44_0
              try clear hcz44_1
              try clear hcz44_2
              try clear hcz46_0
              try clear hcz46_1
              try clear hcz57_0
              try clear hcz57_1
              try clear hcz57_2
              try clear hfz17_0
              try clear hfz17_1
              try clear hfz29_0
              try clear hfz29_1
              try clear hfz37_0
              try clear hfz37_1
              try clear hfz41_0
              try clear hfz41_1
              try clear hfz44_0
              try clear hfz44_1
              try clear hfz44_2
              try clear hfz46_0
              try clear hfz46_1
              try clear hfz57_0
              try clear hfz57_1
              try clear hfz57_2
              try clear hx200_0
              try clear hx200_1
              try clear hx213_0
              try clear p2
              try clear p20
              try clear p200
              try clear p21
              try clear p213
              try clear p6
              try clear q2
              try clear q20
              try clear q200
              try clear q21
              try clear q213
              obtain ⟨x14_4, x78_4, rfl, HA, HK4, HO_9, HO_14, HO_200001, HO_200002, BK190, BK199, HB⟩ := hrel; cases gk with
              | zero => exact absurd HA.out (by simp [enforce_duties.l2])
              | succ k4 =>
               have H := HA.out; clear HA; simp only [enforce_duties.l2] at H; by_cases c59 : x78_4 < (l1.length : Int)
               · rw [if_pos c59] at H; have c59b0 : decide (x78_4 < (l1.length : Int)) = true := decide_eq_true c59; clear c59; by_cases c60 : 0 ≤ x78_4
                 · rw [if_pos c60] at H; have c60b0 : decide (0 ≤ x78_4) = true := decide_eq_true c60; clear c60; by_cases c61 : x78_4 < (l1.length : Int)
                   · rw [if_pos c61] at H; have c61b0 : decide (x78_4 < (l1.length : Int)) = true := decide_eq_true c61; clear c61; by_cases c62 : x14_4.length < 8796093022208
                     · rw [if_pos c62] at H; have LMc62 := Aside0.mk c62; clear c62; obtain ⟨y215, hy215⟩ : ∃ y_ : List (S42), y_ = (x14_4 ++ [(⟨rd l1 x78_4, x51_2⟩ : S42)]) := ⟨_, rfl⟩; replace H : (enforce_duties.l2 k4 l1 a2 t191 x9_2 t210 x51_2 y215 a0_0 x51_2 l1 (l1.length : Int) (wrap64 (x78_4 + 1)) t192 t193 t196) = some r := by first | (rw [hy215]; with_reducible exact H) | (have H2_ := (Option.bind_some _ _).symm.trans H; rw [hy215]; with_reducible exact H2_) | (have H2_ := (Option.bind_some _ _).symm.trans H; with_reducible exact H2_) | with_reducible exact H | (rw [hy215]; exact H) | exact H
                       have Ny215 := Aside0.mk hy215; clear hy215; have H' := Aside0.mk H; clear H; have p214 : 0 ≤ (x78_4 : Int) := of_decide_eq_true (by first | (with_reducible assumption) | assumption); have q214 : x78_4 < (l1.length : Int) := of_decide_eq_true (by first | (with_reducible assumption) | assumption); obtain ⟨ad214, e214, hx214_0⟩ := Kd.at_int HR1.out x78_4 p214 q214; cases e214; replace hx214_0 := (HB.out.cell (World.block_lt_of_cell? w _ hx214_0)).trans hx214_0; replace p214 := eq_true p214; replace q214 := eq_true q214; go_wp2_with (first | ((with_reducible refine gate_builtin (b := .append) (xs := #[.tmp 82, .tmp 86]) rfl ?_); at_builtin; refine Kd.R_append k42 (w0 := w) w.heap.size rfl (.tmp 82) (.tmp 86) 22 42 (.agg #[(.int .i64 0), (.int .i64 0)]) 16 rfl Tryd.underlying22 info42 rfl (by decide) (by omega) u14 x14_4 (⟨rd l1 x78_4, x51_2⟩ : S42) [.int .i64 (rd l1 x78_4), .int .i64 x51_2] (fun _ => True) (fun _ => False) rfl rfl ?aP (fun _ hk => hk.elim) ?aF ?aO ?aB ?aS ?aL ?_; (case aP => exact k42_mkM _ _ _ (⟨rd l1 x78_4, x51_2⟩ : S42)); (case aB => exact (zB HB)); (case aF => exact (fun _ _ => trivial)); (case aO => exact (zR HO_14)); (case aS => exact (below_size (zB HB))); (case aL => have := LMc62.out; omega); intro v216 w63 ho hb hg hat; rw [← Ny215.out] at ho; have HO217 := Aside0.mk (ho); replace HO_9 := Aside0.mk (Kd.S_after (ok := (fun _ => True)) (by refine zkS ?_; exact Kd.S_mono HO_9.out (fun _ hk => ⟨trivial, hk⟩)) hg hat); replace HO_200001 := Aside0.mk (Kd.R_over' (zR HO_200001) (Kd.R_typed (zR HO_14)) (by decide) hg); replace HO_200002 := Aside0.mk (Kd.R_over' (zR HO_200002) (Kd.R_typed (zR HO_14)) (by decide) hg); replace BK190 := Aside0.mk (blk_grown (g := gb190) (o := .cells #[.int .i64 a0_0, .slice A0_1 l0_1.length c0_1] 24 (0, 0)) (zK BK190) hg (Kd.R_ne HO_14.out BK190.out (by decide))); replace BK199 := Aside0.mk (blk_grown (g := gb199) (o := .cells #[.int .u64 t192, .slice Ao12 t193.length co12, .slice Ao14 t196.length co14] 80 (0, 0)) (zK BK199) hg (Kd.R_ne HO_14.out BK199.out (by decide))); replace HB := Aside0.mk (hb); clear HO_14; clear ho hb hg hat)); go_roundg k4
                       case measure => have := HK1.out; have := HK2.out; have := HJ47.out; have := HK4.out; omega
                       case rel => exact ⟨(y215), (wrap64 (x78_4 + 1)), zv, H', ⟨by have := HK1.out; have := HK2.out; have := HJ47.out; have := HK4.out; omega⟩, ⟨by refine zkS ?_; exact Kd.S_mono HO_9.out (fun _ hk => hk.2)⟩, ⟨zR HO217⟩, ⟨zR HO_200001⟩, ⟨zR HO_200002⟩, ⟨zK BK190⟩, ⟨zK BK199⟩, ⟨zB HB⟩⟩
                     · rw [if_neg c62] at H; exact absurd H (by simp)
                   · rw [if_neg c61] at H; exact absurd H (by simp)
                 · rw [if_neg c60] at H; exact absurd H (by simp)
               · rw [if_neg c59] at H; have c59b0 : decide (x78_4 < (l1.length : Int)) = false := decide_eq_false c59; clear c59; by_cases c64 : a2 = 1
                 · rw [if_pos c64] at H; have c64b0 : (a2 == 1) = true := beq_iff_eq.mpr c64; have c64b1 : (a2 != 1) = false := bne_eq_false_iff_eq.mpr c64; clear c64; by_cases c65 : 0 ≤ x51_2
                   · rw [if_pos c65] at H; have c65b0 : decide (0 ≤ x51_2) = true := decide_eq_true c65; clear c65; by_cases c66 : x51_2 < (t196.length : Int)
                     · rw [if_pos c66] at H; have c66b0 : decide (x51_2 < (t196.length : Int)) = true := decide_eq_true c66; clear c66; replace H := Option.bind_eq_some_iff.mp H; obtain ⟨t219, A670, H⟩ := H; replace H : (enforce_duties.l3 k4 l1 a2 t191 x9_2 t210 x51_2 x14_4 a0_0 x51_2 t219 (t219.length : Int) 0 t192 t193 t196) = some r := H; have A67 := Aside0.mk A670; clear A670; have H' := Aside0.mk H; clear H; have hnb68 := NB199_190.out; have hnc68 := NB190_199.out; have hcz69_0 := zc BK199 0; have hcz69_1 := zc BK199 1; have hcz69_2 := zc BK199 2; have hfz69_0 := blk_frozen BK199.out 0; have hfz69_1 := blk_frozen BK199.out 1; have hfz69_2 := blk_frozen BK199.out 2; have p218 : 0 ≤ (x51_2 : Int) := of_decide_eq_true (by first | (with_reducible assumption) | assumption); have q218 : x51_2 < (t196.length : Int) := of_decide_eq_true (by first | (with_reducible assumption) | assumption); obtain ⟨ad218, e218, hx218_0⟩ := Kd.at_int (Kd.R_reads' HO_200002.out).2.2 x51_2 p218 q218; cases e218; replace p218 := eq_true p218; replace q218 := eq_true q218; go_wp2_with (first | ((with_reducible refine gate_callee (f := 50) rfl ?_); refine zG (some 98) rfl Tryd.func50 #[.int .u64 (Go.bits .and .u64 (rd t196 x51_2) t191)] ?_; (with_reducible refine (network_Set_List.calls k4 (Go.bits .and .u64 (rd t196 x51_2) t191) t219 _ ?side1 A67.out).mono ?_); (case side1 => exact TabT.now HTab.out (zB HB)); rintro e w70 ⟨v220, rfl, ho0, hb⟩; refine ⟨_, rfl, ?_⟩; have HO221 := Aside0.mk (Kd.R_lower ho0 (below_size (zB HB))); replace HO_9 := Aside0.mk (Kd.S_below (zS HO_9) hb); replace HO_14 := Aside0.mk (Kd.R_below (zR HO_14) hb); replace HO_200001 := Aside0.mk (Kd.R_below (zR HO_200001) hb); replace HO_200002 := Aside0.mk (Kd.R_below (zR HO_200002) hb); replace BK190 := Aside0.mk (zKb BK190 hb); replace BK199 := Aside0.mk (zKb BK199 hb); replace HB := Aside0.mk (below_step (zB HB) hb); (try clear hb); (try clear hb2); (try clear hk); (try clear hi); (try clear ho0); obtain ⟨Ao71, co71, eo71⟩ := Kd.R_slice HO221.out; subst eo71)); go_loopg [14, 100] k4 (fun kq v14 v100 w' => ∃ (x14_5 : List (S42)) (x100_5 : Int), v100 = .int .i64 x100_5 ∧ Aside0 (enforce_duties.l3 kq l1 a2 t191 x9_2 t210 x51_2 x14_5 a0_0 x51_2 t219 (t219.length : Int) x100_5 t192 t193 t196 = some r) ∧ Aside0 (kq ≤ k4) ∧ Aside0 (Kd.S (Kd.slice 42 k42) 22 w' w.heap.size (fun k_ => some k_ ≠ (v14 : Value).ownBlock) u9 x9_2) ∧ Aside0 (Kd.R k42 42 w' w.heap.size (fun _ => True) v14 x14_5) ∧ Aside0 (Kd.R (Kd.int .i64) 3 w' w.heap.size (fun _ => True) (.slice Ao71 t219.length co71) t219) ∧ Aside0 (Kd.R (Kd.int .u64) 76 w' w.heap.size (fun k_ => some k_ ≠ ((.slice (some ad218) t196.length co14) : Value).ownBlock) (.slice Ao12 t193.length co12) t193) ∧ Aside0 (Kd.R (Kd.int .u64) 76 w' w.heap.size (fun k_ => some k_ ≠ ((.slice Ao12 t193.length co12) : Value).ownBlock) (.slice (some ad218) t196.length co14) t196) ∧ Aside0 (w'.heap[gb190]? = some (.cells #[.int .i64 a0_0, (.slice A0_1 l0_1.length c0_1)] 24 (0, 0))) ∧ Aside0 (w'.heap[gb199]? = some (.cells #[.int .u64 t192, (.slice Ao12 t193.length co12), (.slice (some ad218) t196.length co14)] 80 (0, 0))) ∧ Aside0 (Below w.heap.size w w'))
                       case atStart => exact ⟨(x14_4), (0), zv, H', ⟨Nat.le_refl _⟩, ⟨zS HO_9⟩, ⟨zR HO_14⟩, ⟨zR HO221⟩, ⟨zR HO_200001⟩, ⟨zR HO_200002⟩, ⟨zK BK190⟩, ⟨zK BK199⟩, ⟨zB HB⟩⟩
                       case round =>
                        clear H'; try clear c1
                        try clear c2
                        try clear p2
                        try clear q2
                        try clear hx2
                        try clear c3
                        try clear c4
                        try clear c5
                        try clear c6
                        try clear p6
                        try clear c7
                        try clear c16
                        try clear c18
                        try clear c18b0
                        try clear c19
                        try clear c19b0
                        try clear c20
                        try clear c20b0
                        try clear p20
                        try clear q20
                        try clear hx20
                        try clear p21
                        try clear q21
                        try clear hx21
                        try clear c22
                        try clear c24
                        try clear c25
                        try clear c27
                        try clear c28
                        try clear c35
                        try clear c36
                        try clear c39
                        try clear c40
                        try clear c43
                        try clear c47
                        try clear c47b0
                        try clear c48
                        try clear c49
                        try clear c50
                        try clear c52
                        try clear c53
                        try clear c53b0
                        try clear c53b1
                        try clear c54
                        try clear c54b0
                        try clear c55
                        try clear c55b0
                        try clear c56
                        try clear c58
                        try clear c59
                        try clear c59b0
                        try clear c60
                        try clear c60b0
                        try clear c61
                        try clear c61b0
                        try clear c62
                        try clear c64
                        try clear c64b0
                        try clear c64b1
                        try clear p64
                        try clear c65
                        try clear c65b0
                        try clear c66
                        try clear c66b0
                        try clear c68
                        try clear hcz17_0
                        try clear hcz17_1
                        try clear hcz29_0
                        try clear hcz29_1
                        try clear hcz37_0
                        try clear hcz37_1
                        try clear hcz41_0
                        try clear hcz41_1
                        try clear hcz44_0
                        try clear hcz44_1
                        try clear hcz44_2
                        try clear hcz46_0
                        try clear hcz46_1
                        try clear hcz57_0
                        try clear hcz57_1
                        try clear hcz57_2
                        try clear hcz69_0
                        try clear hcz69_1
                        try clear hcz69_2
                        try clear hfz17_0
                        try clear hfz17_1
                        try clear hfz29_0
                        try clear hfz29_1
                        try clear hfz37_0
                        try clear hfz37_1
                        try clear hfz41_0
                        try clear hfz41_1
                        try clear hfz44_0
                        try clear hfz44_1
                        try clear hfz44_2
                        try clear hfz46_0
                        try clear hfz46_1
                        try clear hfz57_0
                        try clear hfz57_1
                        try clear hfz57_2
                        try clear hfz69_0
                        try clear hfz69_1
                        try clear hfz69_2
                        try clear hx200_0
                        try clear hx200_1
                        try clear hx213_0
                        try clear hx214_0
                        try clear hx218_0
                        try clear p2
                        try clear p20
                        try clear p200
                        try clear p21
                        try clear p213
                        try clear p214
                        try clear p218
                        try clear p6
                        try clear q2
                        try clear q20
                        try clear q200
                        try clear q21
                        try clear q213
                        try clear q214
                        try clear q218
                        obtain ⟨x14_5, x100_5, rfl, HA, HK5, HO_9, HO_14, HO_98, HO_200001, HO_200002, BK190, BK199, HB⟩ := hrel; cases gk with
                        | zero => exact absurd HA.out (by simp [enforce_duties.l3])
                        | succ k5 =>
                         have H := HA.out; clear HA; simp only [enforce_duties.l3] at H; by_cases c72 : x100_5 < (t219.length : Int)
                         · rw [if_pos c72] at H; have c72b0 : decide (x100_5 < (t219.length : Int)) = true := decide_eq_true c72; clear c72; by_cases c73 : 0 ≤ x100_5
                           · rw [if_pos c73] at H; have c73b0 : decide (0 ≤ x100_5) = true := decide_eq_true c73; clear c73; by_cases c74 : x100_5 < (t219.length : Int)
                             · rw [if_pos c74] at H; have c74b0 : decide (x100_5 < (t219.length : Int)) = true := decide_eq_true c74; clear c74; by_cases c75 : x14_5.length < 8796093022208
                               · rw [if_pos c75] at H; have LMc75 := Aside0.mk c75; clear c75; obtain ⟨y223, hy223⟩ : ∃ y_ : List (S42), y_ = (x14_5 ++ [(⟨x51_2, rd t219 x100_5⟩ : S42)]) := ⟨_, rfl⟩; replace H : (enforce_duties.l3 k5 l1 a2 t191 x9_2 t210 x51_2 y223 a0_0 x51_2 t219 (t219.length : Int) (wrap64 (x100_5 + 1)) t192 t193 t196) = some r := by first | (rw [hy223]; with_reducible exact H) | (have H2_ := (Option.bind_some _ _).symm.trans H; rw [hy223]; with_reducible exact H2_) | (have H2_ := (Option.bind_some _ _).symm.trans H; with_reducible exact H2_) | with_reducible exact H | (rw [hy223]; exact H) | exact H
                                 have Ny223 := Aside0.mk hy223; clear hy223; have H' := Aside0.mk H; clear H; have p222 : 0 ≤ (x100_5 : Int) := of_decide_eq_true (by first | (with_reducible assumption) | assumption); have q222 : x100_5 < (t219.length : Int) := of_decide_eq_true (by first | (with_reducible assumption) | assumption); obtain ⟨ad222, e222, hx222_0⟩ := Kd.at_int (Kd.R_reads' HO_98.out).2.2 x100_5 p222 q222; cases e222; replace p222 := eq_true p222; replace q222 := eq_true q222; go_wp2_with (first | ((with_reducible refine gate_builtin (b := .append) (xs := #[.tmp 104, .tmp 108]) rfl ?_); at_builtin; refine Kd.R_append k42 (w0 := w) w.heap.size rfl (.tmp 104) (.tmp 108) 22 42 (.agg #[(.int .i64 0), (.int .i64 0)]) 16 rfl Tryd.underlying22 info42 rfl (by decide) (by omega) u14 x14_5 (⟨x51_2, rd t219 x100_5⟩ : S42) [.int .i64 x51_2, .int .i64 (rd t219 x100_5)] (fun _ => True) (fun _ => False) rfl rfl ?aP (fun _ hk => hk.elim) ?aF ?aO ?aB ?aS ?aL ?_; (case aP => exact k42_mkM _ _ _ (⟨x51_2, rd t219 x100_5⟩ : S42)); (case aB => exact (zB HB)); (case aF => exact (fun _ _ => trivial)); (case aO => exact (zR HO_14)); (case aS => exact (below_size (zB HB))); (case aL => have := LMc75.out; omega); intro v224 w76 ho hb hg hat; rw [← Ny223.out] at ho; have HO225 := Aside0.mk (ho); replace HO_9 := Aside0.mk (Kd.S_after (ok := (fun _ => True)) (by refine zkS ?_; exact Kd.S_mono HO_9.out (fun _ hk => ⟨trivial, hk⟩)) hg hat); replace HO_98 := Aside0.mk (Kd.R_over' (zR HO_98) (Kd.R_typed (zR HO_14)) (by decide) hg); replace HO_200001 := Aside0.mk (Kd.R_over' (zR HO_200001) (Kd.R_typed (zR HO_14)) (by decide) hg); replace HO_200002 := Aside0.mk (Kd.R_over' (zR HO_200002) (Kd.R_typed (zR HO_14)) (by decide) hg); replace BK190 := Aside0.mk (blk_grown (g := gb190) (o := .cells #[.int .i64 a0_0, .slice A0_1 l0_1.length c0_1] 24 (0, 0)) (zK BK190) hg (Kd.R_ne HO_14.out BK190.out (by decide))); replace BK199 := Aside0.mk (blk_grown (g := gb199) (o := .cells #[.int .u64 t192, .slice Ao12 t193.length co12, .slice (some ad218) t196.length co14] 80 (0, 0)) (zK BK199) hg (Kd.R_ne HO_14.out BK199.out (by decide))); replace HB := Aside0.mk (hb); clear HO_14; clear ho hb hg hat)); go_roundg k5
                                 case measure => have := HK1.out; have := HK2.out; have := HJ47.out; have := HK4.out; have := HK5.out; omega
                                 case rel => exact ⟨(y223), (wrap64 (x100_5 + 1)), zv, H', ⟨by have := HK1.out; have := HK2.out; have := HJ47.out; have := HK4.out; have := HK5.out; omega⟩, ⟨by refine zkS ?_; exact Kd.S_mono HO_9.out (fun _ hk => hk.2)⟩, ⟨zR HO225⟩, ⟨zR HO_98⟩, ⟨zR HO_200001⟩, ⟨zR HO_200002⟩, ⟨zK BK190⟩, ⟨zK BK199⟩, ⟨zB HB⟩⟩
                               · rw [if_neg c75] at H; exact absurd H (by simp)
                             · rw [if_neg c74] at H; exact absurd H (by simp)
                           · rw [if_neg c73] at H; exact absurd H (by simp)
                         · rw [if_neg c72] at H; have c72b0 : decide (x100_5 < (t219.length : Int)) = false := decide_eq_false c72; clear c72; replace H := Option.bind_eq_some_iff.mp H; obtain ⟨t226, A770, H⟩ := H; replace H : (if x9_2.length < 5864062014805 then (enforce_duties.l1 k5 l1 a2 t191 (x9_2 ++ [t226]) t210 a0_0 (wrap64 (x51_2 + 1)) t192 t193 t196) else (none)) = some r := H; have A77 := Aside0.mk A770; clear A770; by_cases c78 : x9_2.length < 5864062014805
                           · rw [if_pos c78] at H; have LMc78 := Aside0.mk c78; clear c78; obtain ⟨y227, hy227⟩ : ∃ y_ : List (List (S42)), y_ = (x9_2 ++ [t226]) := ⟨_, rfl⟩; replace H : (enforce_duties.l1 k5 l1 a2 t191 y227 t210 a0_0 (wrap64 (x51_2 + 1)) t192 t193 t196) = some r := by first | (rw [hy227]; with_reducible exact H) | (have H2_ := (Option.bind_some _ _).symm.trans H; rw [hy227]; with_reducible exact H2_) | (have H2_ := (Option.bind_some _ _).symm.trans H; with_reducible exact H2_) | with_reducible exact H | (rw [hy227]; exact H) | exact H
                             have Ny227 := Aside0.mk hy227; clear hy227; have H' := Aside0.mk H; clear H; obtain ⟨Ao79, co79, eo79⟩ := Kd.R_slice HO_14.out; subst eo79; go_wp2_with (first | ((with_reducible refine gate_callee (f := 42) rfl ?_); refine zG (some 112) rfl Tryd.func42 #[.slice Ao79 x14_5.length co79, .func (.func 43) #[] #[]] ?_; (with_reducible refine (api_Pair_42.calls (fun k_ => some k_ = (.slice Ao79 x14_5.length co79 : Value).ownBlock) (.slice Ao79 x14_5.length co79) x14_5  t226 w _ ?side1 ?side2 A77.out).mono ?_); (case side1 => repeat (first | (with_reducible first | exact HB.out | apply below_alloc | apply pw_below_drewN | apply below_drew1 | refine below_set ?_ GE190.out | refine below_set ?_ GE199.out) | exact HB.out)); (case side2 => exact Kd.R_tight rfl HO_14.out); rintro e w80 ⟨rfl, hy0, hb, hkp⟩; refine ⟨_, rfl, ?_⟩; replace HO_9 := Aside0.mk (Kd.S_mono (ok' := fun k_ => some k_ ≠ (.slice Ao79 x14_5.length co79 : Value).ownBlock) (Kd.S_keptB (HO_9.out) hkp (fun k_ hk_ hs_ => (hk_) hs_)) (fun k_ hk_ => hk_.1)); replace HO_98 := Aside0.mk (Kd.R_mono (ok' := fun k_ => True) (Kd.R_keptB ((Kd.R_apart' HO_98.out (Kd.R_typed HO_14.out) (by decide))) hkp (fun k_ hk_ hs_ => (hk_.2) hs_)) (fun k_ hk_ => trivial)); replace HO_200001 := Aside0.mk (Kd.R_mono (ok' := fun k_ => some k_ ≠ (.slice (some ad218) t196.length co14 : Value).ownBlock) (Kd.R_keptB ((Kd.R_apart' HO_200001.out (Kd.R_typed HO_14.out) (by decide))) hkp (fun k_ hk_ hs_ => (hk_.2) hs_)) (fun k_ hk_ => hk_.1.1)); replace HO_200002 := Aside0.mk (Kd.R_mono (ok' := fun k_ => some k_ ≠ (.slice Ao12 t193.length co12 : Value).ownBlock) (Kd.R_keptB ((Kd.R_apart' HO_200002.out (Kd.R_typed HO_14.out) (by decide))) hkp (fun k_ hk_ hs_ => (hk_.2) hs_)) (fun k_ hk_ => hk_.1.1)); replace BK190 := Aside0.mk (blk_kept (zK BK190) hkp (fun hs_ => (fun e_ => (Kd.R_ne HO_14.out BK190.out (by decide)) e_) hs_)); replace BK199 := Aside0.mk (blk_kept (zK BK199) hkp (fun hs_ => (fun e_ => (Kd.R_ne HO_14.out BK199.out (by decide)) e_) hs_)); replace HO_14 := Aside0.mk (Kd.R_reok rfl hy0 (fun k_ e_ => HO_14.out.1 k_ e_)); replace HB := Aside0.mk (hb); (try clear hb); (try clear hkp); (try clear hy0)) | ((with_reducible refine gate_builtin (b := .append) (xs := #[.tmp 113, .tmp 115]) rfl ?_); at_builtin; refine Kd.S_append (Kd.slice 42 k42) (w0 := w) w.heap.size rfl (.tmp 113) (.tmp 115) 26 22 (.slice none 0 0) 24 rfl Tryd.underlying26 info22 rfl (by decide) (by omega) u9 x9_2 t226 [.slice Ao79 x14_5.length co79] (fun _ => True) (fun k_ => some k_ = (.slice Ao79 x14_5.length co79 : Value).ownBlock) rfl rfl ?aP (fun k_ hk_ => ((Kd.R_mono (ok' := fun k_ => ((fun _ => True)) k_ ∧ some k_ ≠ (u9 : Value).ownBlock) (Kd.R_apart' (HO_14.out) (Kd.S_typed HO_9.out) (by decide)) (fun k_ hk => ⟨trivial, hk.2⟩))).1 k_ hk_.symm) ?aF ?aO ?aB ?aS ?aL ?_; (case aP => exact Kd.M_row (Kd.R_mono (Kd.R_tight rfl (Kd.R_mono (ok' := fun k_ => ((fun _ => True)) k_ ∧ some k_ ≠ (u9 : Value).ownBlock) (Kd.R_apart' (HO_14.out) (Kd.S_typed HO_9.out) (by decide)) (fun k_ hk => ⟨trivial, hk.2⟩))) (fun _ h_ => h_))); (case aB => exact (zB HB)); (case aF => exact (fun _ _ => trivial)); (case aO => exact (by refine zkS ?_; exact Kd.S_mono HO_9.out (fun k_ hk => ⟨trivial, fun e_ => hk e_⟩))); (case aS => exact (below_size (zB HB))); (case aL => have := LMc78.out; omega); intro v228 w81 ho hb hg hat; rw [← Ny227.out] at ho; have HO229 := Aside0.mk (ho); replace HO_98 := Aside0.mk (Kd.R_over' (zR HO_98) (Kd.S_typed (zS HO_9)) (by decide) hg); replace HO_200001 := Aside0.mk (Kd.R_over' (zR HO_200001) (Kd.S_typed (zS HO_9)) (by decide) hg); replace HO_200002 := Aside0.mk (Kd.R_over' (zR HO_200002) (Kd.S_typed (zS HO_9)) (by decide) hg); replace BK190 := Aside0.mk (blk_grown (g := gb190) (o := .cells #[.int .i64 a0_0, .slice A0_1 l0_1.length c0_1] 24 (0, 0)) (zK BK190) hg (Kd.S_ne HO_9.out BK190.out (by decide))); replace BK199 := Aside0.mk (blk_grown (g := gb199) (o := .cells #[.int .u64 t192, .slice Ao12 t193.length co12, .slice (some ad218) t196.length co14] 80 (0, 0)) (zK BK199) hg (Kd.S_ne HO_9.out BK199.out (by decide))); replace HB := Aside0.mk (hb); clear HO_9 HO_14; clear ho hb hg hat)); go_roundg k5
                             case measure => have := HK1.out; have := HK2.out; have := HJ47.out; have := HK4.out; have := HK5.out; omega
                             case rel => exact ⟨(y227), (wrap64 (x51_2 + 1)), zv, H', ⟨by have := HK1.out; have := HK2.out; have := HJ47.out; have := HK4.out; have := HK5.out; omega⟩, ⟨zS HO229⟩, ⟨zR HO_200001⟩, ⟨zR HO_200002⟩, ⟨zK BK190⟩, ⟨zK BK199⟩, ⟨zB HB⟩⟩
                           · rw [if_neg c78] at H; exact absurd H (by simp)
                     · rw [if_neg c66] at H; exact absurd H (by simp)
                   · rw [if_neg c65] at H; exact absurd H (by simp)
                 · rw [if_neg c64] at H; have c64b0 : (a2 == 1) = false := beq_eq_false_iff_ne.mpr c64; have c64b1 : (a2 != 1) = true := bne_iff_ne.mpr c64; replace H := Option.bind_eq_some_iff.mp H; obtain ⟨t230, A820, H⟩ := H; replace H : (if x9_2.length < 5864062014805 then (enforce_duties.l1 k4 l1 a2 t191 (x9_2 ++ [t230]) t210 a0_0 (wrap64 (x51_2 + 1)) t192 t193 t196) else (none)) = some r := H; have A82 := Aside0.mk A820; clear A820; by_cases c83 : x9_2.length < 5864062014805
                   · rw [if_pos c83] at H; have LMc83 := Aside0.mk c83; clear c83; obtain ⟨y231, hy231⟩ : ∃ y_ : List (List (S42)), y_ = (x9_2 ++ [t230]) := ⟨_, rfl⟩; replace H : (enforce_duties.l1 k4 l1 a2 t191 y231 t210 a0_0 (wrap64 (x51_2 + 1)) t192 t193 t196) = some r := by first | (rw [hy231]; with_reducible exact H) | (have H2_ := (Option.bind_some _ _).symm.trans H; rw [hy231]; with_reducible exact H2_) | (have H2_ := (Option.bind_some _ _).symm.trans H; with_reducible exact H2_) | with_reducible exact H | (rw [hy231]; exact H) | exact H
                     have Ny231 := Aside0.mk hy231; clear hy231; have H' := Aside0.mk H; clear H; obtain ⟨Ao84, co84, eo84⟩ := Kd.R_slice HO_14.out; subst eo84; go_wp2_with (first | ((with_reducible refine gate_callee (f := 42) rfl ?_); refine zG (some 112) rfl Tryd.func42 #[.slice Ao84 x14_4.length co84, .func (.func 43) #[] #[]] ?_; (with_reducible refine (api_Pair_42.calls (fun k_ => some k_ = (.slice Ao84 x14_4.length co84 : Value).ownBlock) (.slice Ao84 x14_4.length co84) x14_4  t230 w _ ?side1 ?side2 A82.out).mono ?_); (case side1 => repeat (first | (with_reducible first | exact HB.out | apply below_alloc | apply pw_below_drewN | apply below_drew1 | refine below_set ?_ GE190.out | refine below_set ?_ GE199.out) | exact HB.out)); (case side2 => exact Kd.R_tight rfl HO_14.out); rintro e w85 ⟨rfl, hy0, hb, hkp⟩; refine ⟨_, rfl, ?_⟩; replace HO_9 := Aside0.mk (Kd.S_mono (ok' := fun k_ => some k_ ≠ (.slice Ao84 x14_4.length co84 : Value).ownBlock) (Kd.S_keptB (HO_9.out) hkp (fun k_ hk_ hs_ => (hk_) hs_)) (fun k_ hk_ => hk_.1)); replace HO_200001 := Aside0.mk (Kd.R_mono (ok' := fun k_ => some k_ ≠ (.slice Ao14 t196.length co14 : Value).ownBlock) (Kd.R_keptB ((Kd.R_apart' HO_200001.out (Kd.R_typed HO_14.out) (by decide))) hkp (fun k_ hk_ hs_ => (hk_.2) hs_)) (fun k_ hk_ => hk_.1.1)); replace HO_200002 := Aside0.mk (Kd.R_mono (ok' := fun k_ => some k_ ≠ (.slice Ao12 t193.length co12 : Value).ownBlock) (Kd.R_keptB ((Kd.R_apart' HO_200002.out (Kd.R_typed HO_14.out) (by decide))) hkp (fun k_ hk_ hs_ => (hk_.2) hs_)) (fun k_ hk_ => hk_.1.1)); replace BK190 := Aside0.mk (blk_kept (zK BK190) hkp (fun hs_ => (fun e_ => (Kd.R_ne HO_14.out BK190.out (by decide)) e_) hs_)); replace BK199 := Aside0.mk (blk_kept (zK BK199) hkp (fun hs_ => (fun e_ => (Kd.R_ne HO_14.out BK199.out (by decide)) e_) hs_)); replace HO_14 := Aside0.mk (Kd.R_reok rfl hy0 (fun k_ e_ => HO_14.out.1 k_ e_)); replace HB := Aside0.mk (hb); (try clear hb); (try clear hkp); (try clear hy0)) | ((with_reducible refine gate_builtin (b := .append) (xs := #[.tmp 113, .tmp 115]) rfl ?_); at_builtin; refine Kd.S_append (Kd.slice 42 k42) (w0 := w) w.heap.size rfl (.tmp 113) (.tmp 115) 26 22 (.slice none 0 0) 24 rfl Tryd.underlying26 info22 rfl (by decide) (by omega) u9 x9_2 t230 [.slice Ao84 x14_4.length co84] (fun _ => True) (fun k_ => some k_ = (.slice Ao84 x14_4.length co84 : Value).ownBlock) rfl rfl ?aP (fun k_ hk_ => ((Kd.R_mono (ok' := fun k_ => ((fun _ => True)) k_ ∧ some k_ ≠ (u9 : Value).ownBlock) (Kd.R_apart' (HO_14.out) (Kd.S_typed HO_9.out) (by decide)) (fun k_ hk => ⟨trivial, hk.2⟩))).1 k_ hk_.symm) ?aF ?aO ?aB ?aS ?aL ?_; (case aP => exact Kd.M_row (Kd.R_mono (Kd.R_tight rfl (Kd.R_mono (ok' := fun k_ => ((fun _ => True)) k_ ∧ some k_ ≠ (u9 : Value).ownBlock) (Kd.R_apart' (HO_14.out) (Kd.S_typed HO_9.out) (by decide)) (fun k_ hk => ⟨trivial, hk.2⟩))) (fun _ h_ => h_))); (case aB => exact (zB HB)); (case aF => exact (fun _ _ => trivial)); (case aO => exact (by refine zkS ?_; exact Kd.S_mono HO_9.out (fun k_ hk => ⟨trivial, fun e_ => hk e_⟩))); (case aS => exact (below_size (zB HB))); (case aL => have := LMc83.out; omega); intro v232 w86 ho hb hg hat; rw [← Ny231.out] at ho; have HO233 := Aside0.mk (ho); replace HO_200001 := Aside0.mk (Kd.R_over' (zR HO_200001) (Kd.S_typed (zS HO_9)) (by decide) hg); replace HO_200002 := Aside0.mk (Kd.R_over' (zR HO_200002) (Kd.S_typed (zS HO_9)) (by decide) hg); replace BK190 := Aside0.mk (blk_grown (g := gb190) (o := .cells #[.int .i64 a0_0, .slice A0_1 l0_1.length c0_1] 24 (0, 0)) (zK BK190) hg (Kd.S_ne HO_9.out BK190.out (by decide))); replace BK199 := Aside0.mk (blk_grown (g := gb199) (o := .cells #[.int .u64 t192, .slice Ao12 t193.length co12, .slice Ao14 t196.length co14] 80 (0, 0)) (zK BK199) hg (Kd.S_ne HO_9.out BK199.out (by decide))); replace HB := Aside0.mk (hb); clear HO_9 HO_14; clear ho hb hg hat)); go_roundg k4
                     case measure => have := HK1.out; have := HK2.out; have := HJ47.out; have := HK4.out; omega
                     case rel => exact ⟨(y231), (wrap64 (x51_2 + 1)), zv, H', ⟨by have := HK1.out; have := HK2.out; have := HJ47.out; have := HK4.out; omega⟩, ⟨zS HO233⟩, ⟨zR HO_200001⟩, ⟨zR HO_200002⟩, ⟨zK BK190⟩, ⟨zK BK199⟩, ⟨zB HB⟩⟩
                   · rw [if_neg c83] at H; exact absurd H (by simp)
       · rw [if_neg c47] at H; have c47b0 : decide (x51_2 < a0_0) = false := decide_eq_false c47; clear c47; obtain rfl := Option.some.inj H; go_wp2; go_ret; exact ⟨_, by first | rfl | (simp [errW_none, errW_some] <;> rfl) | (simp [*, errW_none, errW_some] <;> rfl), by refine zkS ?_; exact HO_9.out, zB HB⟩
end Go.Proofs.YtjmdlmogdbhdhaaDoor.P
/- Plain facts: the duties of a set. -/
namespace Go.Proofs.YtjmdlmogdbhdhaaDoor.P
open Go.RowKit Go.Proofs.YtjmdlmogdbhdhaaDoorW.PrintWords Go.Proofs.YtjmdlmogdbhdhaaDoorW.PrintLast Go.Proofs.YtjmdlmogdbhdhaaDoorW.PrintMore
def inn (s : List Int) (a : Int) : Bool := decide (a ∈ s)
def idut (L : List S42) (s : List Int) : List (List S42) := (L.filter fun p => inn s p.f0 && inn s p.f1).map fun p => [p]
def skp (L : List S42) (s : List Int) (kind : Int) (a : Nat) : Bool := inl s a || (hits L (inl s) a || (decide (kind = 1) && !hitBy L (inl s) a))
def back (L : List S42) (s : List Int) (a : Nat) : List Int := lst (fun b => edg L a b && inl s b)
def rawD (L : List S42) (s : List Int) (kind : Int) (a : Nat) : List S42 := s.map (fun x => ⟨x, (a : Int)⟩) ++ if kind = 1 then (back L s a).map (fun x => ⟨(a : Int), x⟩) else []
def oneD (L : List S42) (s : List Int) (kind : Int) (a : Nat) : List S42 := isP (rawD L s kind a)
def nodD (L : List S42) (s : List Int) (kind : Int) : Nat → Nat → List (List S42)
  | 0, _ => []
  | n + 1, a => if skp L s kind a = true then nodD L s kind n (a + 1) else oneD L s kind a :: nodD L s kind n (a + 1)
def dut (N : Int) (L : List S42) (s : List Int) (kind : Int) : List (List S42) := idut L s ++ nodD L s kind N.toNat 0
theorem rep_nat {u : Int} {p : Nat → Bool} (h : Rep u p) (x : Int) (h0 : 0 ≤ x) (h1 : x < 64) : network_Set_Has.f u x = some (p x.toNat) := by
  have := has_bit h x.toNat (by omega)
  rwa [show ((x.toNat : Nat) : Int) = x by omega] at this
theorem inl_nat (s : List Int) (x : Int) (h0 : 0 ≤ x) : inl s x.toNat = inn s x := by
  unfold inl inn
  rw [show ((x.toNat : Nat) : Int) = x by omega]
section
variable {N : Int} {L : List S42} {s : List Int} {kind u t al : Int} {by_ out : List Int}
theorem dl3 {x51 : Int} {R : List (List S42)} (acc : List (List S42)) (hacc : acc.length ≤ 100000) (hP : ∀ x, Ev (fun k => enforce_duties.l1 k s kind u (acc ++ [x]) t N x51 al by_ out) ((acc ++ [x]) ++ R)) (l : List Int) (hl : l.length ≤ 1000) (x13 x50' : Int) (hw : wrap64 (x50' + 1) = x51) :
    ∀ (n i : Nat), n + i = l.length → ∀ d : List S42, d.length ≤ 1000 + i → Ev (fun k => enforce_duties.l3 k s kind u acc t x13 d N x50' l (l.length : Int) (i : Int) al by_ out) (acc ++ isP (d ++ (l.drop i).map (fun x => ⟨x13, x⟩)) :: R)
  | 0, i, hi, d, hd => by
    refine Ev.succ ?_
    simp only [enforce_duties.l3, hw]
    refine Ev.neg (by omega) ?_
    rw [List.drop_eq_nil_of_le (by omega), List.map_nil, List.append_nil]
    have e : @api_Pair_42.f d = some (isP d) := by unfold api_Pair_42.f; rw [if_pos (by omega)]
    simp only [e, Option.bind_some]
    have := hP (isP d)
    exact Ev.pos (by omega) (by simpa using this)
  | n + 1, i, hi, d, hd => by
    have hlt : i < l.length := by omega
    have ih := dl3 acc hacc hP l hl x13 x50' hw n (i + 1) (by omega) (d ++ [⟨x13, l[i]⟩]) (by simp; omega)
    refine Ev.succ ?_
    simp only [enforce_duties.l3, rd_get l i hlt, up1 i (by omega)]
    refine Ev.pos (by omega) (Ev.pos (by omega) (Ev.pos (by omega) (Ev.pos (by omega) ?_)))
    rw [List.drop_eq_getElem_cons hlt, List.map_cons]
    rw [List.append_assoc] at ih
    exact ih
theorem dl2 {x51 : Int} {R : List (List S42)} (acc : List (List S42)) (hacc : acc.length ≤ 100000) (hP : ∀ x, Ev (fun k => enforce_duties.l1 k s kind u (acc ++ [x]) t N x51 al by_ out) ((acc ++ [x]) ++ R)) (hnet : NetOk N L al by_ out) (hN : N ≤ 40) (hu : Rep u (inl s)) (hs : s.length ≤ 40) (a : Nat) (ha : (a : Int) < N) (hw : wrap64 ((a : Int) + 1) = x51) :
    ∀ (n i : Nat), n + i = s.length → ∀ d : List S42, d.length ≤ i → Ev (fun k => enforce_duties.l2 k s kind u acc t (a : Int) d N (a : Int) s (s.length : Int) (i : Int) al by_ out) (acc ++ isP (d ++ ((s.drop i).map (fun x => ⟨x, (a : Int)⟩) ++ if kind = 1 then (back L s a).map (fun x => ⟨(a : Int), x⟩) else [])) :: R)
  | 0, i, hi, d, hd => by
    have hlo := hnet.lo
    refine Ev.succ ?_
    simp only [enforce_duties.l2, hw]
    refine Ev.neg (by omega) ?_
    rw [List.drop_eq_nil_of_le (by omega), List.map_nil, List.nil_append]
    by_cases hk : kind = 1
    · rw [if_pos hk]
      have hb := lst_len (fun b => edg L a b && inl s b)
      have h3 := dl3 acc hacc hP (back L s a) (Nat.le_trans hb (by omega)) (a : Int) (a : Int) hw (back L s a).length 0 (by omega) d (by omega)
      rw [List.drop_zero] at h3
      exact Ev.pos hk (Ev.pos (by omega) (Ev.pos (by omega) (Ev.bind (list_ev ((hnet.ro a ha).and hu)) h3)))
    · rw [if_neg hk, List.append_nil]
      have e : @api_Pair_42.f d = some (isP d) := by unfold api_Pair_42.f; rw [if_pos (by omega)]
      simp only [e, Option.bind_some]
      have := hP (isP d)
      exact Ev.neg hk (Ev.pos (by omega) (by simpa using this))
  | n + 1, i, hi, d, hd => by
    have hlt : i < s.length := by omega
    have ih := dl2 acc hacc hP hnet hN hu hs a ha hw n (i + 1) (by omega) (d ++ [⟨s[i], (a : Int)⟩]) (by simp; omega)
    refine Ev.succ ?_
    simp only [enforce_duties.l2, rd_get s i hlt, up1 i (by omega)]
    refine Ev.pos (by omega) (Ev.pos (by omega) (Ev.pos (by omega) (Ev.pos (by omega) ?_)))
    rw [List.drop_eq_getElem_cons hlt, List.map_cons]
    rw [List.append_assoc] at ih
    exact ih
theorem dl1 (hnet : NetOk N L al by_ out) (hN : N ≤ 40) (hu : Rep u (inl s)) (hs : s.length ≤ 40) (ht : Rep t (hits L (inl s))) :
    ∀ (n i : Nat), ((n + i : Nat) : Int) = N → ∀ acc : List (List S42), acc.length + n ≤ 90000 → Ev (fun k => enforce_duties.l1 k s kind u acc t N (i : Int) al by_ out) (acc ++ nodD L s kind n i)
  | 0, i, hi, acc, ha => by
    refine Ev.succ ?_
    simp only [enforce_duties.l1, nodD, List.append_nil]
    exact Ev.neg (by omega) (Ev.const _)
  | n + 1, i, hi, acc, ha => by
    have hlo := hnet.lo
    have hiN : (i : Int) < N := by omega
    have hw := up1 i (by omega)
    have ih := dl1 hnet hN hu hs ht n (i + 1) (by omega)
    have hJ : ∀ b : Bool, b = skp L s kind i → Ev (fun k => enforce_duties.j2 k s kind u acc t (i : Int) N (i : Int) b al by_ out) (acc ++ nodD L s kind (n + 1) i) := by
      intro b hb
      refine Ev.succ ?_
      simp only [enforce_duties.j2, hw, nodD, ← hb]
      cases b with
      | true => exact Ev.pos rfl (by simpa using ih acc (by omega))
      | false =>
        refine Ev.neg (by simp) ?_
        simp only [Bool.false_eq_true, if_false]
        have h2 := dl2 (L := L) acc (by omega) (R := nodD L s kind n (i + 1)) (fun x => ih (acc ++ [x]) (by simp; omega)) hnet hN hu hs i hiN hw s.length 0 (by omega) [] (by simp)
        exact h2
    refine Ev.succ ?_
    simp only [enforce_duties.l1, has_bit hu i (by omega), has_bit ht i (by omega), Option.bind_some]
    refine Ev.pos hiN ?_
    cases h1 : inl s i with
    | true => exact Ev.pos rfl (hJ true (by unfold skp; rw [h1]; rfl))
    | false =>
      refine Ev.neg (by simp) ?_
      cases h2 : hits L (inl s) i with
      | true => exact Ev.pos rfl (hJ true (by unfold skp; rw [h1, h2]; rfl))
      | false =>
        refine Ev.neg (by simp) ?_
        by_cases hk : kind = 1
        · refine Ev.pos hk (Ev.pos (by omega) (Ev.pos (by omega) ?_))
          refine hJ _ ?_
          rw [((hnet.ro i hiN).and hu).isz]
          unfold skp
          rw [h1, h2, decide_eq_true hk, Bool.false_or, Bool.false_or, Bool.true_and]
          unfold hitBy
          rw [List.not_any_eq_all_not]
          refine congrArg (fun f => (List.range 64).all f) (funext fun b => ?_)
          rw [Bool.and_comm]
        · refine Ev.neg hk (hJ false ?_)
          unfold skp
          rw [h1, h2, decide_eq_false hk]
          rfl
theorem dl0 (hG : GoodG N L) (hnet : NetOk N L al by_ out) (hu : Rep u (inl s)) (hsl : SetL N s) :
    ∀ (n i : Nat), n + i = L.length → ∀ acc : List (List S42), acc.length ≤ i → Ev (fun k => enforce_duties.l0 k s kind u acc L (L.length : Int) (i : Int) N L al by_ out) (acc ++ (idut (L.drop i) s ++ nodD L s kind N.toNat 0))
  | 0, i, hi, acc, ha => by
    have h0 := hG.n0
    have h1 := hG.n1
    have hlen := good_len hG
    obtain ⟨t, e, ht⟩ := hit_ok hnet hG.n1 hu hsl.sup
    refine Ev.succ ?_
    simp only [enforce_duties.l0]
    refine Ev.neg (by omega) (Ev.bind e ?_)
    rw [List.drop_eq_nil_of_le (by omega)]
    exact dl1 hnet hG.n1 hu (hsl.len h0 h1) ht N.toNat 0 (by omega) acc (by omega)
  | n + 1, i, hi, acc, ha => by
    have h1 := hG.n1
    have hlen := good_len hG
    have hlt : i < L.length := by omega
    have hr := hG.inr _ (List.getElem_mem hlt)
    have ih := dl0 hG hnet hu hsl n (i + 1) (by omega)
    refine Ev.succ ?_
    simp only [enforce_duties.l0, rdT_get L i hlt, up1 i (by omega), rep_nat hu (L[i]).f0 hr.1 (by omega), rep_nat hu (L[i]).f1 hr.2.2.1 (by omega), inl_nat s (L[i]).f0 hr.1, inl_nat s (L[i]).f1 hr.2.2.1, Option.bind_some]
    refine Ev.pos (by omega) (Ev.pos (by omega) (Ev.pos (by omega) ?_))
    have hid : idut (L.drop i) s = (if (inn s (L[i]).f0 && inn s (L[i]).f1) = true then [[L[i]]] else []) ++ idut (L.drop (i + 1)) s := by
      unfold idut
      rw [List.drop_eq_getElem_cons hlt, List.filter_cons]
      split <;> simp
    rw [hid]
    cases ha' : inn s (L[i]).f0 with
    | false => exact Ev.neg (by simp) (by simpa using ih acc (by omega))
    | true =>
      refine Ev.pos rfl ?_
      cases hb' : inn s (L[i]).f1 with
      | false => exact Ev.neg (by simp) (by simpa using ih acc (by omega))
      | true =>
        refine Ev.pos rfl (Ev.pos (by omega) ?_)
        have := ih (acc ++ [[L[i]]]) (by simp; omega)
        simpa using this
theorem duties_ok (hG : GoodG N L) (hsl : SetL N s) (kind : Int) : Ev (fun k => enforce_duties.f k N L s kind) (dut N L s kind) := by
  obtain ⟨al, by_, out, e, h⟩ := new_ev hG
  obtain ⟨u, e2, hu⟩ := hsl.of hG.n0 hG.n1
  have h0 := dl0 (kind := kind) hG h hu hsl L.length 0 (by omega) [] (by simp)
  rw [List.drop_zero, List.nil_append] at h0
  simp only [enforce_duties.f]
  exact Ev.bind e2 (Ev.bind e h0)
end
end Go.Proofs.YtjmdlmogdbhdhaaDoor.P
namespace Go.Proofs.YtjmdlmogdbhdhaaDoor.P
open Go.RowKit Go.Proofs.YtjmdlmogdbhdhaaDoorW.PrintWords Go.Proofs.YtjmdlmogdbhdhaaDoorW.PrintLast Go.Proofs.YtjmdlmogdbhdhaaDoorW.PrintMore
attribute [local go_sem] max2_int min2_int max_two min_two max_three min_three max_four min_four
set_option linter.unusedVariables false
set_option linter.unusedSimpArgs false
def network_Ascending.l0 : Nat → List Int → Int → List Int → Int → Int → Option (Bool)
 | 0, _, _, _, _, _ => none
 | k + 1, x0, x1, x7, x8, x9 => if x9 < x8 then (if 0 ≤ x9 then (if x9 < (x7.length : Int) then (if (rd x7 x9) < 0 then (some false) else (if (rd x7 x9) ≥ x1 then (some false) else (if x9 > 0 then (if 0 ≤ (wrap64 (x9 - 1)) then (if (wrap64 (x9 - 1)) < (x0.length : Int) then (if (rd x7 x9) ≤ (rd x0 (wrap64 (x9 - 1))) then (some false) else (network_Ascending.l0 k x0 x1 x7 x8 (wrap64 (x9 + 1)))) else (none)) else (none)) else (network_Ascending.l0 k x0 x1 x7 x8 (wrap64 (x9 + 1)))))) else (none)) else (none)) else (some true)
def network_Ascending.f (k : Nat) (l0 : List Int) (a1 : Int) : Option (Bool) := network_Ascending.l0 k l0 a1 l0 (l0.length : Int) 0
set_option maxHeartbeats 8000000 in
set_option maxRecDepth 100000 in
theorem network_Ascending.calls (k : Nat) (A0 : Option Addr) (c0 : Nat) (l0 : List Int) (a1 : Int) (r : Bool) (w : World) (hr0 : Kd.C (Kd.int .i64) w A0 l0.length l0) (hc0 : l0.length ≤ c0) (h : network_Ascending.f k l0 a1 = some r) :
 Calls Tryd.prog 64 #[.slice A0 l0.length c0, .int .i64 a1] w fun e w' => e = .returned (.bool r) ∧ Drawn0 w w' := by
 have HR0 := Aside0.mk hr0; have HC0 := Aside0.mk hc0; clear hr0 hc0; have H : (network_Ascending.l0 k l0 a1 l0 (l0.length : Int) 0) = some r := h; clear h; have H' := Aside0.mk H; clear H; go_enter Tryd.func64, Tryd.ntmps64; go_wp2; go_loopg [9] k (fun kq v9 w' => ∃ (x9_1 : Int), v9 = .int .i64 x9_1 ∧ Aside0 (network_Ascending.l0 kq l0 a1 l0 (l0.length : Int) x9_1 = some r) ∧ Aside0 (kq ≤ k) ∧ Drawn0 w w')
 case atStart => exact ⟨(0), zv, H', ⟨Nat.le_refl _⟩, by repeat (first | exact Drawn0.refl _ | apply Drawn0.step)⟩
 case round =>
  clear H'; try clear p2
  obtain ⟨x9_1, rfl, HA, HK1, ⟨m1, rfl⟩⟩ := hrel; cases gk with
  | zero => exact absurd HA.out (by simp [network_Ascending.l0])
  | succ k1 =>
   have H := HA.out; clear HA; simp only [network_Ascending.l0] at H; by_cases c3 : x9_1 < (l0.length : Int)
   · rw [if_pos c3] at H; have c3b0 : decide (x9_1 < (l0.length : Int)) = true := decide_eq_true c3; clear c3; by_cases c4 : 0 ≤ x9_1
     · rw [if_pos c4] at H; have c4b0 : decide (0 ≤ x9_1) = true := decide_eq_true c4; clear c4; by_cases c5 : x9_1 < (l0.length : Int)
       · rw [if_pos c5] at H; have c5b0 : decide (x9_1 < (l0.length : Int)) = true := decide_eq_true c5; clear c5; by_cases c6 : (rd l0 x9_1) < 0
         · rw [if_pos c6] at H; have c6b0 : decide ((rd l0 x9_1) < 0) = true := decide_eq_true c6; clear c6; obtain rfl := Option.some.inj H; have p128 : 0 ≤ (x9_1 : Int) := of_decide_eq_true (by first | (with_reducible assumption) | assumption); have q128 : x9_1 < (l0.length : Int) := of_decide_eq_true (by first | (with_reducible assumption) | assumption); obtain ⟨ad128, e128, hx128_0⟩ := Kd.at_int HR0.out x9_1 p128 q128; cases e128; replace p128 := eq_true p128; replace q128 := eq_true q128; go_wp2; go_ret; exact ⟨by first | rfl | (simp; done) | (simp [*]; done), by repeat (first | exact Drawn0.refl _ | apply Drawn0.step)⟩
         · rw [if_neg c6] at H; have c6b0 : decide ((rd l0 x9_1) < 0) = false := decide_eq_false c6; clear c6; by_cases c7 : (rd l0 x9_1) ≥ a1
           · rw [if_pos c7] at H; have c7b0 : decide (a1 ≤ (rd l0 x9_1)) = true := decide_eq_true c7; clear c7; obtain rfl := Option.some.inj H; have p128 : 0 ≤ (x9_1 : Int) := of_decide_eq_true (by first | (with_reducible assumption) | assumption); have q128 : x9_1 < (l0.length : Int) := of_decide_eq_true (by first | (with_reducible assumption) | assumption); obtain ⟨ad128, e128, hx128_0⟩ := Kd.at_int HR0.out x9_1 p128 q128; cases e128; replace p128 := eq_true p128; replace q128 := eq_true q128; go_wp2; go_ret; exact ⟨by first | rfl | (simp; done) | (simp [*]; done), by repeat (first | exact Drawn0.refl _ | apply Drawn0.step)⟩
           · rw [if_neg c7] at H; have c7b0 : decide (a1 ≤ (rd l0 x9_1)) = false := decide_eq_false c7; clear c7; by_cases c8 : x9_1 > 0
             · rw [if_pos c8] at H; have c8b0 : decide (0 < x9_1) = true := decide_eq_true c8; clear c8; obtain ⟨ji9, hji9⟩ : ∃ j_ : Int, (wrap64 (x9_1 - 1)) = j_ := ⟨_, rfl⟩; replace H : (if 0 ≤ (ji9) then (if (ji9) < (l0.length : Int) then (if (rd l0 x9_1) ≤ (rd l0 (ji9)) then (some false) else (network_Ascending.l0 k1 l0 a1 l0 (l0.length : Int) (wrap64 (x9_1 + 1)))) else (none)) else (none)) = some r := by first | (rw [hji9] at H; exact H) | (simp only [hji9] at H ⊢; exact H)
               have hji9w : (IntKind.i64.wrap (x9_1 - 1)) = ji9 := (i64_w _).trans hji9; by_cases c10 : 0 ≤ (ji9)
               · rw [if_pos c10] at H; have c10b0 : decide (0 ≤ (ji9)) = true := decide_eq_true c10; clear c10; by_cases c11 : (ji9) < (l0.length : Int)
                 · rw [if_pos c11] at H; have c11b0 : decide ((ji9) < (l0.length : Int)) = true := decide_eq_true c11; clear c11; by_cases c12 : (rd l0 x9_1) ≤ (rd l0 (ji9))
                   · rw [if_pos c12] at H; have c12b0 : decide ((rd l0 x9_1) ≤ (rd l0 (ji9))) = true := decide_eq_true c12; clear c12; obtain rfl := Option.some.inj H; have p128 : 0 ≤ (x9_1 : Int) := of_decide_eq_true (by first | (with_reducible assumption) | assumption); have q128 : x9_1 < (l0.length : Int) := of_decide_eq_true (by first | (with_reducible assumption) | assumption); obtain ⟨ad128, e128, hx128_0⟩ := Kd.at_int HR0.out x9_1 p128 q128; cases e128; replace p128 := eq_true p128; replace q128 := eq_true q128; have p129 : 0 ≤ ((ji9) : Int) := of_decide_eq_true (by first | (with_reducible assumption) | assumption); have q129 : (ji9) < (l0.length : Int) := of_decide_eq_true (by first | (with_reducible assumption) | assumption); obtain ⟨ad129, e129, hx129_0⟩ := Kd.at_int HR0.out (ji9) p129 q129; obtain rfl : ad128 = ad129 := (by injection e129); replace p129 := eq_true p129; replace q129 := eq_true q129; go_wp2; go_ret; exact ⟨by first | rfl | (simp; done) | (simp only [← hji9] <;> (first | rfl | simp)) | (simp [*]; done), by repeat (first | exact Drawn0.refl _ | apply Drawn0.step)⟩
                   · rw [if_neg c12] at H; have c12b0 : decide ((rd l0 x9_1) ≤ (rd l0 (ji9))) = false := decide_eq_false c12; clear c12; have H' := Aside0.mk H; clear H; have p128 : 0 ≤ (x9_1 : Int) := of_decide_eq_true (by first | (with_reducible assumption) | assumption); have q128 : x9_1 < (l0.length : Int) := of_decide_eq_true (by first | (with_reducible assumption) | assumption); obtain ⟨ad128, e128, hx128_0⟩ := Kd.at_int HR0.out x9_1 p128 q128; cases e128; replace p128 := eq_true p128; replace q128 := eq_true q128; have p129 : 0 ≤ ((ji9) : Int) := of_decide_eq_true (by first | (with_reducible assumption) | assumption); have q129 : (ji9) < (l0.length : Int) := of_decide_eq_true (by first | (with_reducible assumption) | assumption); obtain ⟨ad129, e129, hx129_0⟩ := Kd.at_int HR0.out (ji9) p129 q129; obtain rfl : ad128 = ad129 := (by injection e129); replace p129 := eq_true p129; replace q129 := eq_true q129; go_wp2; go_roundg k1
                     case measure => have := HK1.out; omega
                     case rel => exact ⟨(wrap64 (x9_1 + 1)), zv, H', ⟨by have := HK1.out; omega⟩, by repeat (first | exact Drawn0.refl _ | apply Drawn0.step)⟩
                 · rw [if_neg c11] at H; exact absurd H (by simp)
               · rw [if_neg c10] at H; exact absurd H (by simp)
             · rw [if_neg c8] at H; have c8b0 : decide (0 < x9_1) = false := decide_eq_false c8; clear c8; have H' := Aside0.mk H; clear H; have p128 : 0 ≤ (x9_1 : Int) := of_decide_eq_true (by first | (with_reducible assumption) | assumption); have q128 : x9_1 < (l0.length : Int) := of_decide_eq_true (by first | (with_reducible assumption) | assumption); obtain ⟨ad128, e128, hx128_0⟩ := Kd.at_int HR0.out x9_1 p128 q128; cases e128; replace p128 := eq_true p128; replace q128 := eq_true q128; go_wp2; go_roundg k1
               case measure => have := HK1.out; omega
               case rel => exact ⟨(wrap64 (x9_1 + 1)), zv, H', ⟨by have := HK1.out; omega⟩, by repeat (first | exact Drawn0.refl _ | apply Drawn0.step)⟩
       · rw [if_neg c5] at H; exact absurd H (by simp)
     · rw [if_neg c4] at H; exact absurd H (by simp)
   · rw [if_neg c3] at H; have c3b0 : decide (x9_1 < (l0.length : Int)) = false := decide_eq_false c3; clear c3; obtain rfl := Option.some.inj H; go_wp2; go_ret; exact ⟨by first | rfl | (simp; done) | (simp [*]; done), by repeat (first | exact Drawn0.refl _ | apply Drawn0.step)⟩
end Go.Proofs.YtjmdlmogdbhdhaaDoor.P
namespace Go.Proofs.YtjmdlmogdbhdhaaDoor.P
open Go.RowKit Go.Proofs.YtjmdlmogdbhdhaaDoorW.PrintWords Go.Proofs.YtjmdlmogdbhdhaaDoorW.PrintLast Go.Proofs.YtjmdlmogdbhdhaaDoorW.PrintMore
attribute [local go_sem] max2_int min2_int max_two min_two max_three min_three max_four min_four
set_option linter.unusedVariables false
set_option linter.unusedSimpArgs false
def enforce_arguments.j0 : Nat → List Int → Bool → Int → List (S42) → Option (Int)
 | 0, _, _, _, _ => none
 | k + 1, x1, x13, x131000, x131001 => if x13 = true then (some 4) else ((network_Ascending.f k x1 x131000).bind fun t132 => (if t132 = true then (some 0) else (some 1)))
def enforce_arguments.f (k : Nat) (a0_0 : Int) (l0_1 : List (S42)) (l1 : List Int) (a2 : Int) : Option (Int) := (graph_Validate.f k a0_0 l0_1).bind fun t131 => (if t131 = 0 then (if a2 = 1 then (enforce_arguments.j0 k l1 false a0_0 l0_1) else (enforce_arguments.j0 k l1 (a2 != 2) a0_0 l0_1)) else (some t131))
set_option maxHeartbeats 8000000 in
set_option maxRecDepth 100000 in
theorem enforce_arguments.calls (k : Nat) (a0_0 : Int) (A0_1 : Option Addr) (c0_1 : Nat) (l0_1 : List (S42)) (A1 : Option Addr) (c1 : Nat) (l1 : List Int) (a2 : Int) (r : Int) (w : World) (hr0_1 : Kd.C k42 w A0_1 l0_1.length l0_1) (hc0_1 : l0_1.length ≤ c0_1) (hr1 : Kd.C (Kd.int .i64) w A1 l1.length l1) (hc1 : l1.length ≤ c1) (h : enforce_arguments.f k a0_0 l0_1 l1 a2 = some r) :
 Calls Tryd.prog 37 #[.agg #[.int .i64 a0_0, .slice A0_1 l0_1.length c0_1], .slice A1 l1.length c1, .int .i64 a2] w fun e w' => e = .returned (.int .i64 r) ∧ Below w.heap.size w w' := by
 have hu24 := Tryd.underlying24; have HR0_1 := Aside0.mk hr0_1; have HC0_1 := Aside0.mk hc0_1; clear hr0_1 hc0_1; have HR1 := Aside0.mk hr1; have HC1 := Aside0.mk hc1; clear hr1 hc1; have HB := Aside0.mk (Below.refl w.heap.size w); have H : ((graph_Validate.f k a0_0 l0_1).bind fun t131 => (if t131 = 0 then (if a2 = 1 then (enforce_arguments.j0 k l1 false a0_0 l0_1) else (enforce_arguments.j0 k l1 (a2 != 2) a0_0 l0_1)) else (some t131))) = some r := h; clear h; replace H := Option.bind_eq_some_iff.mp H; obtain ⟨t131, A40, H⟩ := H; replace H : (if t131 = 0 then (if a2 = 1 then (enforce_arguments.j0 k l1 false a0_0 l0_1) else (enforce_arguments.j0 k l1 (a2 != 2) a0_0 l0_1)) else (some t131)) = some r := H; have A4 := Aside0.mk A40; clear A40; by_cases c5 : t131 = 0
 · rw [if_pos c5] at H; have c5b0 : (t131 == 0) = true := beq_iff_eq.mpr c5; have c5b1 : (t131 != 0) = false := bne_eq_false_iff_eq.mpr c5; clear c5; have HC6 := Aside0.mk H; clear H; go_enter Tryd.func37, Tryd.ntmps37; go_upto_region 4 with (first | ((with_reducible refine gate_dst (N := 3) rfl ?_); refine zX (N := 3) (cs := #[.int .i64 a0_0, .slice A0_1 l0_1.length c0_1]) (t := 24) ?_; intro gb130 hg w7 hbox hb; have BK130 := Aside0.mk (hbox); have GW130 := Aside0.mk (zW hg HB); have GE130 := Aside0.mk (zW hg HB); replace HB := Aside0.mk (below_step (zB HB) hb); clear hb hbox hg; have hcz8_0 := zc BK130 0; have hcz8_1 := zc BK130 1; have hfz8_0 := blk_frozen BK130.out 0; have hfz8_1 := blk_frozen BK130.out 1) | ((with_reducible refine gate_callee (f := 41) rfl ?_); refine zG (some 9) rfl Tryd.func41 #[.agg #[.int .i64 a0_0, .slice A0_1 l0_1.length c0_1]] ?_; (with_reducible refine (graph_Validate.calls k a0_0 _ _ l0_1 t131 _ ?side1 ?side2 A4.out).mono ?_); (case side1 => exact zCb HR0_1 HB); (case side2 => exact HC0_1.out); rintro e w9 ⟨rfl, hb⟩; refine ⟨_, rfl, ?_⟩; replace BK130 := Aside0.mk (zKb BK130 hb); replace HB := Aside0.mk (below_step (zB HB) hb); (try clear hb); (try clear hb2); (try clear hk); (try clear hi)))
   (try simp only [Act.put, List.setIfInBounds_toArray, List.set_cons_zero, List.set_cons_succ]); go_cut [13] (fun v13 wc => ∃ (kq : Nat) (x13_5 : Bool), v13 = .bool x13_5 ∧ Aside0 (enforce_arguments.j0 kq l1 x13_5 a0_0 l0_1 = some r) ∧ Aside0 (kq ≤ k) ∧ Aside0 (wc.heap[gb130]? = some (.cells #[.int .i64 a0_0, (.slice A0_1 l0_1.length c0_1)] 24 (0, 0))) ∧ Aside0 (Below w.heap.size w wc))
   case first =>
    have H := HC6.out; clear HC6; by_cases c10 : a2 = 1
    · rw [if_pos c10] at H; have c10b0 : (a2 == 1) = true := beq_iff_eq.mpr c10; have c10b1 : (a2 != 1) = false := bne_eq_false_iff_eq.mpr c10; clear c10; (first | rw [c10b0] | (simp only [i64_w, i32_w]; rw [c10b0]) | skip); have H' := Aside0.mk H; clear H; go_wp2; go_meet
      case rel => exact ⟨_, (false), zv, H', ⟨by first | omega | exact Nat.le_refl _⟩, ⟨zK BK130⟩, ⟨zB HB⟩⟩
    · rw [if_neg c10] at H; have c10b0 : (a2 == 1) = false := beq_eq_false_iff_ne.mpr c10; have c10b1 : (a2 != 1) = true := bne_iff_ne.mpr c10; (first | rw [c10b0] | (simp only [i64_w, i32_w]; rw [c10b0]) | skip); have H' := Aside0.mk H; clear H; go_wp2; go_meet
      case rel => exact ⟨_, ((a2 != 2)), zv, H', ⟨by first | omega | exact Nat.le_refl _⟩, ⟨zK BK130⟩, ⟨zB HB⟩⟩
   case rest =>
    clear HC6; try clear c1
    try clear p2
    try clear c3
    try clear c4
    try clear c5
    try clear c5b0
    try clear c5b1
    try clear c10
    try clear c10b0
    try clear c10b1
    try clear hcz8_0
    try clear hcz8_1
    try clear hfz8_0
    try clear hfz8_1
    obtain ⟨kq, x13_5, rfl, HA, HJ5, BK130, HB⟩ := hcut; cases kq with
    | zero => exact absurd HA.out (by simp [enforce_arguments.j0])
    | succ kj5 =>
     have H := HA.out; clear HA; simp only [enforce_arguments.j0] at H; by_cases c11 : x13_5 = true
     · subst c11; have H1 : (some 4) = some r := by rw [if_pos rfl] at H; exact H
       clear H; have H := H1; clear H1; obtain rfl := Option.some.inj H; go_wp2; go_ret; exact ⟨by first | rfl | (simp [errW_none, errW_some] <;> rfl) | (simp [*, errW_none, errW_some] <;> rfl), zB HB⟩
     · replace c11 := Bool.eq_false_iff.mpr c11; subst c11; have H1 : ((network_Ascending.f kj5 l1 a0_0).bind fun t132 => (if t132 = true then (some 0) else (some 1))) = some r := by rw [if_neg (show ¬ (false = true) by decide)] at H; exact H
       clear H; have H := H1; clear H1; replace H := Option.bind_eq_some_iff.mp H; obtain ⟨t132, A120, H⟩ := H; replace H : (if t132 = true then (some 0) else (some 1)) = some r := H; have A12 := Aside0.mk A120; clear A120; by_cases c13 : t132 = true
       · subst c13; have H1 : (some 0) = some r := by rw [if_pos rfl] at H; exact H
         clear H; have H := H1; clear H1; obtain rfl := Option.some.inj H; have hcz14_0 := zc BK130 0; have hcz14_1 := zc BK130 1; have hfz14_0 := blk_frozen BK130.out 0; have hfz14_1 := blk_frozen BK130.out 1; go_wp2_with (first | ((with_reducible refine gate_callee (f := 64) rfl ?_); refine zG (some 24) rfl Tryd.func64 #[.slice A1 l1.length c1, .int .i64 a0_0] ?_; (with_reducible refine (network_Ascending.calls kj5 _ _ l1 a0_0 true _ ?side1 ?side2 A12.out).mono ?_); (case side1 => exact zCb HR1 HB); (case side2 => exact HC1.out); rintro e w' ⟨rfl, ⟨nd, rfl⟩⟩; refine ⟨_, rfl, ?_⟩)); go_ret; exact ⟨by first | rfl | (simp [errW_none, errW_some] <;> rfl) | (simp [*, errW_none, errW_some] <;> rfl), zB HB⟩
       · replace c13 := Bool.eq_false_iff.mpr c13; subst c13; have H1 : (some 1) = some r := by rw [if_neg (show ¬ (false = true) by decide)] at H; exact H
         clear H; have H := H1; clear H1; obtain rfl := Option.some.inj H; have hcz15_0 := zc BK130 0; have hcz15_1 := zc BK130 1; have hfz15_0 := blk_frozen BK130.out 0; have hfz15_1 := blk_frozen BK130.out 1; go_wp2_with (first | ((with_reducible refine gate_callee (f := 64) rfl ?_); refine zG (some 24) rfl Tryd.func64 #[.slice A1 l1.length c1, .int .i64 a0_0] ?_; (with_reducible refine (network_Ascending.calls kj5 _ _ l1 a0_0 false _ ?side1 ?side2 A12.out).mono ?_); (case side1 => exact zCb HR1 HB); (case side2 => exact HC1.out); rintro e w' ⟨rfl, ⟨nd, rfl⟩⟩; refine ⟨_, rfl, ?_⟩)); go_ret; exact ⟨by first | rfl | (simp [errW_none, errW_some] <;> rfl) | (simp [*, errW_none, errW_some] <;> rfl), zB HB⟩
 · rw [if_neg c5] at H; have c5b0 : (t131 == 0) = false := beq_eq_false_iff_ne.mpr c5; have c5b1 : (t131 != 0) = true := bne_iff_ne.mpr c5; obtain rfl := Option.some.inj H; go_enter Tryd.func37, Tryd.ntmps37; go_wp2_with (first | ((with_reducible refine gate_dst (N := 3) rfl ?_); refine zX (N := 3) (cs := #[.int .i64 a0_0, .slice A0_1 l0_1.length c0_1]) (t := 24) ?_; intro gb130 hg w16 hbox hb; have BK130 := Aside0.mk (hbox); have GW130 := Aside0.mk (zW hg HB); have GE130 := Aside0.mk (zW hg HB); replace HB := Aside0.mk (below_step (zB HB) hb); clear hb hbox hg; have hcz17_0 := zc BK130 0; have hcz17_1 := zc BK130 1; have hfz17_0 := blk_frozen BK130.out 0; have hfz17_1 := blk_frozen BK130.out 1) | ((with_reducible refine gate_callee (f := 41) rfl ?_); refine zG (some 9) rfl Tryd.func41 #[.agg #[.int .i64 a0_0, .slice A0_1 l0_1.length c0_1]] ?_; (with_reducible refine (graph_Validate.calls k a0_0 _ _ l0_1 t131 _ ?side1 ?side2 A4.out).mono ?_); (case side1 => exact zCb HR0_1 HB); (case side2 => exact HC0_1.out); rintro e w18 ⟨rfl, hb⟩; refine ⟨_, rfl, ?_⟩; replace BK130 := Aside0.mk (zKb BK130 hb); replace HB := Aside0.mk (below_step (zB HB) hb); (try clear hb); (try clear hb2); (try clear hk); (try clear hi))); go_ret; exact ⟨by first | rfl | (simp [errW_none, errW_some] <;> rfl) | (simp [*, errW_none, errW_some] <;> rfl), zB HB⟩
end Go.Proofs.YtjmdlmogdbhdhaaDoor.P
namespace Go.Proofs.YtjmdlmogdbhdhaaDoor.P
open Go.RowKit Go.Proofs.YtjmdlmogdbhdhaaDoorW.PrintWords Go.Proofs.YtjmdlmogdbhdhaaDoorW.PrintLast Go.Proofs.YtjmdlmogdbhdhaaDoorW.PrintMore
attribute [local go_sem] max2_int min2_int max_two min_two max_three min_three max_four min_four
set_option linter.unusedVariables false
set_option linter.unusedSimpArgs false
def enforce_hopeless.f (a0_0 : Int) (l0_1 : List (S42)) (l1 : List Int) (a2 : Int) : Option (Bool) := if (l1.length : Int) = 0 then (if a2 = 2 then (some (decide (a0_0 > 0))) else (some false)) else (some false)
set_option maxHeartbeats 8000000 in
set_option maxRecDepth 100000 in
theorem enforce_hopeless.calls (a0_0 : Int) (A0_1 : Option Addr) (c0_1 : Nat) (l0_1 : List (S42)) (A1 : Option Addr) (c1 : Nat) (l1 : List Int) (a2 : Int) (r : Bool) (w : World) (hr0_1 : Kd.C k42 w A0_1 l0_1.length l0_1) (hc0_1 : l0_1.length ≤ c0_1) (hr1 : Kd.C (Kd.int .i64) w A1 l1.length l1) (hc1 : l1.length ≤ c1) (h : enforce_hopeless.f a0_0 l0_1 l1 a2 = some r) :
 Calls Tryd.prog 46 #[.agg #[.int .i64 a0_0, .slice A0_1 l0_1.length c0_1], .slice A1 l1.length c1, .int .i64 a2] w fun e w' => e = .returned (.bool r) ∧ Below w.heap.size w w' := by
 have hu24 := Tryd.underlying24; have HR0_1 := Aside0.mk hr0_1; have HC0_1 := Aside0.mk hc0_1; clear hr0_1 hc0_1; have HR1 := Aside0.mk hr1; have HC1 := Aside0.mk hc1; clear hr1 hc1; have HB := Aside0.mk (Below.refl w.heap.size w); have H : (if (l1.length : Int) = 0 then (if a2 = 2 then (some (decide (a0_0 > 0))) else (some false)) else (some false)) = some r := h; clear h; by_cases c4 : (l1.length : Int) = 0
 · rw [if_pos c4] at H; have c4b0 : ((l1.length : Int) == 0) = true := beq_iff_eq.mpr c4; have c4b1 : ((l1.length : Int) != 0) = false := bne_eq_false_iff_eq.mpr c4; clear c4; by_cases c5 : a2 = 2
   · rw [if_pos c5] at H; have c5b0 : (a2 == 2) = true := beq_iff_eq.mpr c5; have c5b1 : (a2 != 2) = false := bne_eq_false_iff_eq.mpr c5; clear c5; obtain rfl := Option.some.inj H; go_enter Tryd.func46, Tryd.ntmps46; go_wp2_with (first | ((with_reducible refine gate_dst (N := 3) rfl ?_); refine zX (N := 3) (cs := #[.int .i64 a0_0, .slice A0_1 l0_1.length c0_1]) (t := 24) ?_; intro gb249 hg w6 hbox hb; have BK249 := Aside0.mk (hbox); have GW249 := Aside0.mk (zW hg HB); have GE249 := Aside0.mk (zW hg HB); replace HB := Aside0.mk (below_step (zB HB) hb); clear hb hbox hg; have hcz7_0 := zc BK249 0; have hcz7_1 := zc BK249 1; have hfz7_0 := blk_frozen BK249.out 0; have hfz7_1 := blk_frozen BK249.out 1)); go_ret; exact ⟨by first | rfl | (simp [errW_none, errW_some] <;> rfl) | (simp [*, errW_none, errW_some] <;> rfl), zB HB⟩
   · rw [if_neg c5] at H; have c5b0 : (a2 == 2) = false := beq_eq_false_iff_ne.mpr c5; have c5b1 : (a2 != 2) = true := bne_iff_ne.mpr c5; obtain rfl := Option.some.inj H; go_enter Tryd.func46, Tryd.ntmps46; go_wp2_with (first | ((with_reducible refine gate_dst (N := 3) rfl ?_); refine zX (N := 3) (cs := #[.int .i64 a0_0, .slice A0_1 l0_1.length c0_1]) (t := 24) ?_; intro gb249 hg w8 hbox hb; have BK249 := Aside0.mk (hbox); have GW249 := Aside0.mk (zW hg HB); have GE249 := Aside0.mk (zW hg HB); replace HB := Aside0.mk (below_step (zB HB) hb); clear hb hbox hg)); go_ret; exact ⟨by first | rfl | (simp [errW_none, errW_some] <;> rfl) | (simp [*, errW_none, errW_some] <;> rfl), zB HB⟩
 · rw [if_neg c4] at H; have c4b0 : ((l1.length : Int) == 0) = false := beq_eq_false_iff_ne.mpr c4; have c4b1 : ((l1.length : Int) != 0) = true := bne_iff_ne.mpr c4; have c4b2 : ¬ (l1 = []) := fun h_ => c4 (by rw [h_]; rfl)
   obtain rfl := Option.some.inj H; go_enter Tryd.func46, Tryd.ntmps46; go_wp2_with (first | ((with_reducible refine gate_dst (N := 3) rfl ?_); refine zX (N := 3) (cs := #[.int .i64 a0_0, .slice A0_1 l0_1.length c0_1]) (t := 24) ?_; intro gb249 hg w9 hbox hb; have BK249 := Aside0.mk (hbox); have GW249 := Aside0.mk (zW hg HB); have GE249 := Aside0.mk (zW hg HB); replace HB := Aside0.mk (below_step (zB HB) hb); clear hb hbox hg)); go_ret; exact ⟨by first | rfl | (simp [errW_none, errW_some] <;> rfl) | (simp [*, errW_none, errW_some] <;> rfl), zB HB⟩
end Go.Proofs.YtjmdlmogdbhdhaaDoor.P
namespace Go.Proofs.YtjmdlmogdbhdhaaDoor.P
open Go.RowKit Go.Proofs.YtjmdlmogdbhdhaaDoorW.PrintWords Go.Proofs.YtjmdlmogdbhdhaaDoorW.PrintLast Go.Proofs.YtjmdlmogdbhdhaaDoorW.PrintMore
attribute [local go_sem] max2_int min2_int max_two min_two max_three min_three max_four min_four
set_option linter.unusedVariables false
set_option linter.unusedSimpArgs false
def slices_Clone_int_int.f (l0 : List Int) : Option (List Int) := if l0.length < 17592186044416 then some l0 else none
set_option maxHeartbeats 1000000 in
theorem slices_Clone_int_int.calls (A0 : Option Addr) (c0 : Nat) (l0 : List Int) (r : List Int) (w : World) (hr0 : Kd.C (Kd.int .i64) w A0 l0.length l0) (hc0 : l0.length ≤ c0) (h : slices_Clone_int_int.f l0 = some r) :
 Calls Tryd.prog 76 #[.slice A0 l0.length c0] w fun e w' => ∃ v0_ : Value, e = .returned (v0_) ∧ Kd.R (Kd.int .i64) 3 w' w.heap.size (fun _ => True) v0_ r ∧ Below w.heap.size w w' := by
 unfold slices_Clone_int_int.f at h; split at h
 case isFalse => exact absurd h (by simp)
 case isTrue hlen =>
 obtain rfl := Option.some.inj h; have HR0 := Aside0.mk hr0; clear hr0 h; cases A0 with
 | none =>
  have hz : l0 = [] := by
   have h3 := HR0.out.2.2; cases l0 with
   | nil => rfl
   | cons a b => obtain ⟨ad, he, _⟩ := h3 (by simp); cases he
  clear HR0; subst hz; have he : ∀ W n c, (binOp .eql 25 (.slice none n c) (.slice none 0 0)).run Tryd.prog W = .ok (.bool true) W := fun W n c => Lib.run_eql_slice_nil W 25 3 none n c 0 0 Tryd.underlying25
  go_enter Tryd.func76, Tryd.ntmps76; go_wp2; go_ret; exact ⟨_, rfl, Kd.R_nil _ _ _ _ _, Below.refl _ _⟩
 | some ad =>
  have he : ∀ W n c, (binOp .eql 25 (.slice (some ad) n c) (.slice none 0 0)).run Tryd.prog W = .ok (.bool false) W := fun W n c => Lib.run_eql_slice_nil W 25 3 (some ad) n c 0 0 Tryd.underlying25
  go_enter Tryd.func76, Tryd.ntmps76
  go_wp2_with (first
   | ((with_reducible refine gate_dst (N := 5) rfl ?_); refine Kd.R_lit (Kd.int .i64) _ 3 ?hg (N := 5) ?hd (xs := ([] : List Int)) (inner := []) (ok := fun _ => True) (okp := fun _ => True) ?hr ?hp (fun _ hk => hk) trivial (Below.refl _ _) (Nat.le_refl _) (by simp) ?_; (case hd => rfl); (case hg => rfl); (case hr => first | (go_simp; done) | (go_simp; rfl)); (case hp => exact Reps.none _ _); intro v1 w1 ho hb hg_ hn_; have HO := Aside0.mk ho; have HB := Aside0.mk hb; clear ho hb hg_ hn_)
   | ((with_reducible refine gate_builtin (b := .append) (xs := #[.tmp 5, .tmp 6]) rfl ?_); at_builtin; refine Kd.R_append_rows (Kd.int .i64) (w0 := w) w.heap.size rfl (.tmp 5) (.tmp 6) 25 3 (.int .i64 0) 8 rfl Tryd.underlying25 info3 rfl (by decide) (by omega) v1 ([] : List Int) l0 _ _ _ (fun _ => True) (fun _ => False) rfl rfl HO.out (Kd.C_below HR0.out HB.out) (fun _ _ h => h) (fun _ h => h.elim) (fun _ _ => trivial) HB.out HB.out.size (by simp; omega) ?_; intro v2 w2 ho hb hg hat; clear hg hat))
  go_ret; exact ⟨_, rfl, ho, hb⟩
end Go.Proofs.YtjmdlmogdbhdhaaDoor.P
namespace Go.Proofs.YtjmdlmogdbhdhaaDoor.P
open Go.RowKit Go.Proofs.YtjmdlmogdbhdhaaDoorW.PrintWords Go.Proofs.YtjmdlmogdbhdhaaDoorW.PrintLast Go.Proofs.YtjmdlmogdbhdhaaDoorW.PrintMore
attribute [local go_sem] max2_int min2_int max_two min_two max_three min_three max_four min_four
set_option linter.unusedVariables false
set_option linter.unusedSimpArgs false
mutual
def enforce_strict.l0 : Nat → List Int → Int → List (List (S42)) → Int → Int → List Int → List (S42) → List (List (S42)) → Option (List Int × (List (S42)) × (List (List (S42))))
 | 0, _, _, _, _, _, _, _, _ => none
 | k + 1, x1, x7, x23, x24, x25, x260000, x260001, x260002 => if x25 < x24 then (if 0 ≤ x25 then (if x25 < (x23.length : Int) then (if 0 < ((rd_L2 x23 x25).length : Int) then ((network_Set_Has.f x7 ((rd_T42 (rd_L2 x23 x25) 0).f0)).bind fun t263 => (if t263 = true then ((network_Set_Has.f x7 ((rd_T42 (rd_L2 x23 x25) 0).f1)).bind fun t264 => (enforce_strict.j1 k x1 x7 x23 x24 x25 (!t264) x260000 x260001 x260002 ((rd_T42 (rd_L2 x23 x25) 0).f0) ((rd_T42 (rd_L2 x23 x25) 0).f1))) else (enforce_strict.j1 k x1 x7 x23 x24 x25 true x260000 x260001 x260002 ((rd_T42 (rd_L2 x23 x25) 0).f0) ((rd_T42 (rd_L2 x23 x25) 0).f1)))) else (none)) else (none)) else (none)) else (some (x260000, x260001, x260002))
def enforce_strict.j1 : Nat → List Int → Int → List (List (S42)) → Int → Int → Bool → List Int → List (S42) → List (List (S42)) → Int → Int → Option (List Int × (List (S42)) × (List (List (S42))))
 | 0, _, _, _, _, _, _, _, _, _, _, _ => none
 | k + 1, x1, x7, x23, x24, x25, x43, x260000, x260001, x260002, x263000, x263001 => if x43 = true then ((network_Set_Has.f x7 x263001).bind fun t265 => (if t265 = true then (if 0 < (x1.length : Int) then (if x260001.length < 8796093022208 then (enforce_strict.l0 k x1 x7 x23 x24 (wrap64 (x25 + 1)) x260000 (x260001 ++ [(⟨rd x1 0, x263000⟩ : S42)]) x260002) else (none)) else (none)) else (if 0 < (x1.length : Int) then (if x260001.length < 8796093022208 then (enforce_strict.l0 k x1 x7 x23 x24 (wrap64 (x25 + 1)) x260000 (x260001 ++ [(⟨rd x1 0, x263001⟩ : S42)]) x260002) else (none)) else (none)))) else (if x260001.length < 8796093022208 then (enforce_strict.l0 k x1 x7 x23 x24 (wrap64 (x25 + 1)) x260000 (x260001 ++ [(⟨x263000, x263001⟩ : S42)]) x260002) else (none))
end
def enforce_strict.f (k : Nat) (a0_0 : Int) (l0_1 : List (S42)) (l1 : List Int) (a2 : Int) : Option (List Int × (List (S42)) × (List (List (S42)))) := (network_Of.f k l1).bind fun t252 => ((slices_Clone_int_int.f l1).bind fun t253 => ((enforce_duties.f k a0_0 l0_1 l1 a2).bind fun t256 => (enforce_strict.l0 k l1 t252 t256 (t256.length : Int) 0 t253 ([] : List (S42)) t256)))
def enforce_strict.T2 : Bool × List (List Nat × List Nat) := (true, [([], []), ([0], [0]), ([], []), ([], []), ([], []), ([2, 3, 4, 1], [2, 3, 4]), ([1, 5], [1, 5]), ([], []), ([7, 6, 5, 0, 1, 2, 3, 4, 5, 6, 7], [6, 7])])
def enforce_strict.B2 : List Nat := [0, 1, 0, 0, 0, 31, 63, 0, 255]
theorem enforce_strict.tab2 : rtab .any (opsOf Tryd.f47 2) = enforce_strict.T2 := by kernel_rfl
theorem enforce_strict.bits2 : waitsOk enforce_strict.T2.2 enforce_strict.B2 = true := by kernel_rfl
set_option maxHeartbeats 8000000 in
set_option maxRecDepth 100000 in
theorem enforce_strict.calls (k : Nat) (a0_0 : Int) (A0_1 : Option Addr) (c0_1 : Nat) (l0_1 : List (S42)) (A1 : Option Addr) (c1 : Nat) (l1 : List Int) (a2 : Int) (r1 : List Int) (r2 : List (S42)) (r3 : List (List (S42))) (w : World) (hr0_1 : Kd.C k42 w A0_1 l0_1.length l0_1) (hc0_1 : l0_1.length ≤ c0_1) (hr1 : Kd.C (Kd.int .i64) w A1 l1.length l1) (hc1 : l1.length ≤ c1) (hT : TabT w) (h : enforce_strict.f k a0_0 l0_1 l1 a2 = some (r1, r2, r3)) :
 Calls Tryd.prog 47 #[.agg #[.int .i64 a0_0, .slice A0_1 l0_1.length c0_1], .slice A1 l1.length c1, .int .i64 a2] w fun e w' => ∃ v0_ v1_ v2_ : Value, e = .returned (.agg #[v0_, v1_, v2_]) ∧ Kd.R (Kd.int .i64) 3 w' w.heap.size (fun _ => True) v0_ r1 ∧ Kd.R k42 42 w' w.heap.size (fun _ => True) v1_ r2 ∧ Kd.S (Kd.slice 42 k42) 22 w' w.heap.size (fun k_ => some k_ ≠ (v1_ : Value).ownBlock) v2_ r3 ∧ Below w.heap.size w w' := by
 have hu24 := Tryd.underlying24; have hu28 := Tryd.underlying28; have hu42 := Tryd.underlying42; have HR0_1 := Aside0.mk hr0_1; have HC0_1 := Aside0.mk hc0_1; clear hr0_1 hc0_1; have HR1 := Aside0.mk hr1; have HC1 := Aside0.mk hc1; clear hr1 hc1; have HTab := Aside0.mk hT; clear hT; have HB := Aside0.mk (Below.refl w.heap.size w); have H : ((network_Of.f k l1).bind fun t252 => ((slices_Clone_int_int.f l1).bind fun t253 => ((enforce_duties.f k a0_0 l0_1 l1 a2).bind fun t256 => (enforce_strict.l0 k l1 t252 t256 (t256.length : Int) 0 t253 ([] : List (S42)) t256)))) = some (r1, r2, r3) := h; clear h; replace H := Option.bind_eq_some_iff.mp H; obtain ⟨t252, A40, H⟩ := H; replace H : ((slices_Clone_int_int.f l1).bind fun t253 => ((enforce_duties.f k a0_0 l0_1 l1 a2).bind fun t256 => (enforce_strict.l0 k l1 t252 t256 (t256.length : Int) 0 t253 ([] : List (S42)) t256))) = some (r1, r2, r3) := H; have A4 := Aside0.mk A40; clear A40; replace H := Option.bind_eq_some_iff.mp H; obtain ⟨t253, A50, H⟩ := H; replace H : ((enforce_duties.f k a0_0 l0_1 l1 a2).bind fun t256 => (enforce_strict.l0 k l1 t252 t256 (t256.length : Int) 0 t253 ([] : List (S42)) t256)) = some (r1, r2, r3) := H; have A5 := Aside0.mk A50; clear A50; replace H := Option.bind_eq_some_iff.mp H; obtain ⟨t256, A60, H⟩ := H; replace H : (enforce_strict.l0 k l1 t252 t256 (t256.length : Int) 0 t253 ([] : List (S42)) t256) = some (r1, r2, r3) := H; have A6 := Aside0.mk A60; clear A60; have H' := Aside0.mk H; clear H; go_enter Tryd.func47, Tryd.ntmps47; try go_wp2_with (first | ((with_reducible refine gate_dst (N := 3) rfl ?_); refine zX (N := 3) (cs := #[.int .i64 a0_0, .slice A0_1 l0_1.length c0_1]) (t := 24) ?_; intro gb250 hg w7 hbox hb; have BK250 := Aside0.mk (hbox); have GW250 := Aside0.mk (zW hg HB); have GE250 := Aside0.mk (zW hg HB); replace HB := Aside0.mk (below_step (zB HB) hb); clear hb hbox hg) | ((with_reducible refine gate_dst (N := 6) rfl ?_); refine zX (N := 6) (cs := #[.slice none 0 0, .slice none 0 0, .slice none 0 0]) (t := 28) ?_; intro gb251 hg w8 hbox hb; have BK251 := Aside0.mk (hbox); have GW251 := Aside0.mk (zW hg HB); have GE251 := Aside0.mk (zW hg HB); have NB250_251 := Aside0.mk (zNl hg BK250); have NB251_250 := Aside0.mk (zNr hg BK250); replace BK250 := Aside0.mk (zKb BK250 hb); replace HB := Aside0.mk (below_step (zB HB) hb); clear hb hbox hg) | ((with_reducible refine gate_callee (f := 48) rfl ?_); refine zG (some 14) rfl Tryd.func48 #[.slice A1 l1.length c1] ?_; (with_reducible refine (network_Of.calls k _ _ l1 t252 _ ?side1 ?side2 A4.out).mono ?_); (case side1 => exact zCb HR1 HB); (case side2 => exact HC1.out); rintro e w' ⟨rfl, ⟨nd, rfl⟩⟩; refine ⟨_, rfl, ?_⟩; (try (rw [drewN_self w8]; generalize hq_ : World.drewN w8 _ = w8; replace BK250 : Aside0 (w8.heap[gb250]? = some (.cells #[.int .i64 a0_0, .slice A0_1 l0_1.length c0_1] 24 (0, 0))) := ⟨by rw [← hq_]; exact (zK BK250)⟩; replace BK251 : Aside0 (w8.heap[gb251]? = some (.cells #[.slice none 0 0, .slice none 0 0, .slice none 0 0] 28 (0, 0))) := ⟨by rw [← hq_]; exact (zK BK251)⟩; replace HB : Aside0 (Below w.heap.size w w8) := ⟨by rw [← hq_]; exact (zB HB)⟩; clear hq_))))
 replace BK250 := Aside0.mk (blk_drew BK250.out); replace BK251 := Aside0.mk (blk_drew BK251.out); replace HB := Aside0.mk (below_drew1 HB.out); refine start_ (n := 9) (S := fun w' => w'.cell? ⟨gb250, 0, none⟩ = some (.int .i64 a0_0) ∧ w'.cell? ⟨gb250, 1, none⟩ = some (.slice A0_1 l0_1.length c0_1)) (ds := []) #[false, false, false, false, false, false, false, false, false] (by kernel_rfl) rfl rfl ⟨(blk_cell BK250.out 0).trans rfl, (blk_cell BK250.out 1).trans rfl⟩ (fun hHeld => ?_); refine with_tabW enforce_strict.tab2 enforce_strict.bits2 (fun HT_ HW_ => ?_); generalize w8.drew = w9 at BK250 BK251 HB hHeld ⊢; refine zpu (i := 0) (n := 15) #[true, false, false, false, false, false, false, false, false] HT_ ?_; refine zpu (i := 3) (n := 18) #[true, false, false, true, false, false, false, false, false] HT_ ?_; refine zpu (i := 4) (n := 19) #[true, false, false, true, true, false, false, false, false] HT_ ?_; refine zt2 (i := 2) (n := 17) #[true, false, true, true, true, false, false, false, false] HT_ HW_ hHeld ?_; refine join_ (σ := Value × Value × Nat) 1 #[true, true, true, true, true, true, true, true, false] (fun s_ => [(16, s_.1), (20, s_.2.1), (8, .pointer (some ⟨s_.2.2, 0, none⟩)), (21, .agg #[s_.1, .slice none 0 0, s_.2.1])]) (fun s_ w' => (w'.cell? ⟨gb250, 0, none⟩ = some (.int .i64 a0_0) ∧ w'.cell? ⟨gb250, 1, none⟩ = some (.slice A0_1 l0_1.length c0_1)) ∧ (Kd.R (Kd.int .i64) 3 w' w.heap.size (fun _ => True) s_.1 t253) ∧ (Kd.S (Kd.slice 42 k42) 22 w' w.heap.size (fun _ => True) s_.2.1 t256) ∧ (w'.heap[gb250]? = some (.cells #[.int .i64 a0_0, .slice A0_1 l0_1.length c0_1] 24 (0, 0))) ∧ (w'.heap[gb251]? = some (.cells #[.slice none 0 0, .slice none 0 0, .slice none 0 0] 28 (0, 0))) ∧ (w'.heap[s_.2.2]? = some (.cells #[.slice none 0 0, .slice none 0 0, .slice none 0 0] 28 (0, 0))) ∧ (w.heap.size ≤ s_.2.2) ∧ (w.heap.size ≤ s_.2.2) ∧ (gb250 ≠ s_.2.2) ∧ (s_.2.2 ≠ gb250) ∧ (gb251 ≠ s_.2.2) ∧ (s_.2.2 ≠ gb251) ∧ (Below w.heap.size w w')) ?_ ?_; rotate_left
 · intro hCont; refine two_ (i := 1) (j := 7) (Ni := some 16) (Nj := some 8) #[true, true, true, true, true, false, false, false, false] #[true, false, true, true, true, false, false, true, false] rfl rfl rfl rfl (two_of HT_.out (by kernel_rfl)) (by decide) (by decide) (fun K hK => ?_) (fun K hK => ?_)
   · refine goes_ Tryd.func76 (by kernel_rfl) rfl #[.slice A1 l1.length c1] (by rfl) rfl rfl (by (try simp only [List.map_toArray, List.map_cons, List.map_nil]); first | done | rfl | (simp only [List.length_drop, List.length_take]; rfl)) ?_; with_reducible refine (slices_Clone_int_int.calls _ _ l1 t253 _ ?side1 ?side2 A5.out).mono ?_
     (case side1 => exact zCb HR1 HB); (case side2 => exact HC1.out); rintro e w10 ⟨v254, rfl, ho0, hb⟩; refine ⟨_, rfl, ?_⟩; have HO255 := Aside0.mk (Kd.R_lower ho0 (below_size (zB HB))); replace BK250 := Aside0.mk (zKb BK250 hb); replace BK251 := Aside0.mk (zKb BK251 hb); replace HB := Aside0.mk (below_step (zB HB) hb); (try clear hb); (try clear hb2); (try clear hk); (try clear hi); (try clear ho0); refine hK.out _ _ ⟨(blk_cell BK250.out 0).trans rfl, (blk_cell BK250.out 1).trans rfl⟩ (fun hHeld => ?_); clear hK K; refine znn 16 ?_; refine two_ (i := 5) (j := 7) (Ni := some 20) (Nj := some 8) #[true, true, true, true, true, true, false, false, false] #[true, true, true, true, true, false, false, true, false] rfl rfl rfl rfl (two_of HT_.out (by kernel_rfl)) (by decide) (by decide) (fun K hK => ?_) (fun K hK => ?_)
     · refine goes_ Tryd.func52 (by kernel_rfl) rfl #[.agg #[.int .i64 a0_0, .slice A0_1 l0_1.length c0_1], .slice A1 l1.length c1, .int .i64 a2] (by rfl) rfl rfl (by (try simp only [List.map_toArray, List.map_cons, List.map_nil]); first | done | rfl | (simp only [List.length_drop, List.length_take]; rfl)) ?_; with_reducible refine (enforce_duties.calls k a0_0 _ _ l0_1 _ _ l1 a2 t256 _ ?side1 ?side2 ?side3 ?side4 ?side5 A6.out).mono ?_
       (case side1 => exact zCb HR0_1 HB); (case side2 => exact HC0_1.out); (case side3 => exact zCb HR1 HB); (case side4 => exact HC1.out); (case side5 => exact TabT.now HTab.out (zB HB)); rintro e w11 ⟨v257, rfl, ho0, hb⟩; refine ⟨_, rfl, ?_⟩; have HO258 := Aside0.mk (Kd.S_lower ho0 (below_size (zB HB))); replace HO255 := Aside0.mk (Kd.R_below (zR HO255) hb); replace BK250 := Aside0.mk (zKb BK250 hb); replace BK251 := Aside0.mk (zKb BK251 hb); replace HB := Aside0.mk (below_step (zB HB) hb); (try clear hb); (try clear hb2); (try clear hk); (try clear hi); (try clear ho0); obtain ⟨Ao12, co12, eo12⟩ := Kd.S_slice HO258.out; (first | subst eo12 | (injection eo12 with f1_ f2_ f3_; have f4_ := f1_.symm; have f5_ := f3_.symm; clear f1_ f2_ f3_; subst f4_; subst f5_)); obtain ⟨Ao13, co13, eo13⟩ := Kd.R_slice HO255.out; (first | subst eo13 | (injection eo13 with f1_ f2_ f3_; have f4_ := f1_.symm; have f5_ := f3_.symm; clear f1_ f2_ f3_; subst f4_; subst f5_)); refine hK.out _ _ ⟨(blk_cell BK250.out 0).trans rfl, (blk_cell BK250.out 1).trans rfl⟩ (fun hHeld => ?_); clear hK K; refine znn 20 ?_; refine zpu (i := 6) (n := 21) #[true, true, true, true, true, true, true, false, false] HT_ ?_; refine one_ (i := 7) (N := some 8) #[true, true, true, true, true, true, true, true, false] rfl rfl (one_of HT_.out (by kernel_rfl)) (by decide) (fun K hK => ?_); refine box_step ?hg (N := 8) ?hd (cs := #[.slice none 0 0, .slice none 0 0, .slice none 0 0]) (t := 28) ?hr ?_; (case hd => rfl); (case hg => rfl); (case hr => first | (go_simp; done) | (go_simp; rfl)); intro gb259 hg w14 hbox hb; have BK259 := Aside0.mk (hbox); have GW259 := Aside0.mk (zW hg HB); have GE259 := Aside0.mk (zW hg HB); have NB250_259 := Aside0.mk (zNl hg BK250); have NB259_250 := Aside0.mk (zNr hg BK250); have NB251_259 := Aside0.mk (zNl hg BK251); have NB259_251 := Aside0.mk (zNr hg BK251); replace HO255 := Aside0.mk (Kd.R_below (zR HO255) hb); replace HO258 := Aside0.mk (Kd.S_below (zS HO258) hb); replace BK250 := Aside0.mk (zKb BK250 hb); replace BK251 := Aside0.mk (zKb BK251 hb); replace HB := Aside0.mk (below_step (zB HB) hb); clear hb hbox hg; refine hK.out _ _ ⟨(blk_cell BK250.out 0).trans rfl, (blk_cell BK250.out 1).trans rfl⟩ (fun hHeld => ?_); clear hK K; refine znn 8 ?_; exact znj (hCont (.slice Ao13 t253.length co13, .slice Ao12 t256.length co12, gb259) _ ⟨hHeld, (zR HO255), (zS HO258), (zK BK250), (zK BK251), (zK BK259), GW259.out, GE259.out, NB250_259.out, NB259_250.out, NB251_259.out, NB259_251.out, (zB HB)⟩)
     · refine box_step ?hg (N := 8) ?hd (cs := #[.slice none 0 0, .slice none 0 0, .slice none 0 0]) (t := 28) ?hr ?_; (case hd => rfl); (case hg => rfl); (case hr => first | (go_simp; done) | (go_simp; rfl)); intro gb259 hg w11 hbox hb; have BK259 := Aside0.mk (hbox); have GW259 := Aside0.mk (zW hg HB); have GE259 := Aside0.mk (zW hg HB); have NB250_259 := Aside0.mk (zNl hg BK250); have NB259_250 := Aside0.mk (zNr hg BK250); have NB251_259 := Aside0.mk (zNl hg BK251); have NB259_251 := Aside0.mk (zNr hg BK251); replace HO255 := Aside0.mk (Kd.R_below (zR HO255) hb); replace BK250 := Aside0.mk (zKb BK250 hb); replace BK251 := Aside0.mk (zKb BK251 hb); replace HB := Aside0.mk (below_step (zB HB) hb); clear hb hbox hg; refine hK.out _ _ ⟨(blk_cell BK250.out 0).trans rfl, (blk_cell BK250.out 1).trans rfl⟩ (fun hHeld => ?_); clear hK K; refine znn 8 ?_; refine one_ (i := 5) (N := some 20) #[true, true, true, true, true, true, false, true, false] rfl rfl (one_of HT_.out (by kernel_rfl)) (by decide) (fun K hK => ?_); refine goes_ Tryd.func52 (by kernel_rfl) rfl #[.agg #[.int .i64 a0_0, .slice A0_1 l0_1.length c0_1], .slice A1 l1.length c1, .int .i64 a2] (by rfl) rfl rfl (by (try simp only [List.map_toArray, List.map_cons, List.map_nil]); first | done | rfl | (simp only [List.length_drop, List.length_take]; rfl)) ?_; with_reducible refine (enforce_duties.calls k a0_0 _ _ l0_1 _ _ l1 a2 t256 _ ?side1 ?side2 ?side3 ?side4 ?side5 A6.out).mono ?_
       (case side1 => exact zCb HR0_1 HB); (case side2 => exact HC0_1.out); (case side3 => exact zCb HR1 HB); (case side4 => exact HC1.out); (case side5 => exact TabT.now HTab.out (zB HB)); rintro e w12 ⟨v257, rfl, ho0, hb⟩; refine ⟨_, rfl, ?_⟩; have HO258 := Aside0.mk (Kd.S_lower ho0 (below_size (zB HB))); replace HO255 := Aside0.mk (Kd.R_below (zR HO255) hb); replace BK250 := Aside0.mk (zKb BK250 hb); replace BK251 := Aside0.mk (zKb BK251 hb); replace BK259 := Aside0.mk (zKb BK259 hb); replace HB := Aside0.mk (below_step (zB HB) hb); (try clear hb); (try clear hb2); (try clear hk); (try clear hi); (try clear ho0); obtain ⟨Ao13, co13, eo13⟩ := Kd.S_slice HO258.out; (first | subst eo13 | (injection eo13 with f1_ f2_ f3_; have f4_ := f1_.symm; have f5_ := f3_.symm; clear f1_ f2_ f3_; subst f4_; subst f5_)); obtain ⟨Ao14, co14, eo14⟩ := Kd.R_slice HO255.out; (first | subst eo14 | (injection eo14 with f1_ f2_ f3_; have f4_ := f1_.symm; have f5_ := f3_.symm; clear f1_ f2_ f3_; subst f4_; subst f5_)); refine hK.out _ _ ⟨(blk_cell BK250.out 0).trans rfl, (blk_cell BK250.out 1).trans rfl⟩ (fun hHeld => ?_); clear hK K; refine znn 20 ?_; refine zpu (i := 6) (n := 21) #[true, true, true, true, true, true, true, true, false] HT_ ?_; exact znj (hCont (.slice Ao14 t253.length co14, .slice Ao13 t256.length co13, gb259) _ ⟨hHeld, (zR HO255), (zS HO258), (zK BK250), (zK BK251), (zK BK259), GW259.out, GE259.out, NB250_259.out, NB259_250.out, NB251_259.out, NB259_251.out, (zB HB)⟩)
   · refine box_step ?hg (N := 8) ?hd (cs := #[.slice none 0 0, .slice none 0 0, .slice none 0 0]) (t := 28) ?hr ?_; (case hd => rfl); (case hg => rfl); (case hr => first | (go_simp; done) | (go_simp; rfl)); intro gb259 hg w10 hbox hb; have BK259 := Aside0.mk (hbox); have GW259 := Aside0.mk (zW hg HB); have GE259 := Aside0.mk (zW hg HB); have NB250_259 := Aside0.mk (zNl hg BK250); have NB259_250 := Aside0.mk (zNr hg BK250); have NB251_259 := Aside0.mk (zNl hg BK251); have NB259_251 := Aside0.mk (zNr hg BK251); replace BK250 := Aside0.mk (zKb BK250 hb); replace BK251 := Aside0.mk (zKb BK251 hb); replace HB := Aside0.mk (below_step (zB HB) hb); clear hb hbox hg; refine hK.out _ _ ⟨(blk_cell BK250.out 0).trans rfl, (blk_cell BK250.out 1).trans rfl⟩ (fun hHeld => ?_); clear hK K; refine znn 8 ?_; refine one_ (i := 1) (N := some 16) #[true, true, true, true, true, false, false, true, false] rfl rfl (one_of HT_.out (by kernel_rfl)) (by decide) (fun K hK => ?_); refine goes_ Tryd.func76 (by kernel_rfl) rfl #[.slice A1 l1.length c1] (by rfl) rfl rfl (by (try simp only [List.map_toArray, List.map_cons, List.map_nil]); first | done | rfl | (simp only [List.length_drop, List.length_take]; rfl)) ?_; with_reducible refine (slices_Clone_int_int.calls _ _ l1 t253 _ ?side1 ?side2 A5.out).mono ?_
     (case side1 => exact zCb HR1 HB); (case side2 => exact HC1.out); rintro e w11 ⟨v254, rfl, ho0, hb⟩; refine ⟨_, rfl, ?_⟩; have HO255 := Aside0.mk (Kd.R_lower ho0 (below_size (zB HB))); replace BK250 := Aside0.mk (zKb BK250 hb); replace BK251 := Aside0.mk (zKb BK251 hb); replace BK259 := Aside0.mk (zKb BK259 hb); replace HB := Aside0.mk (below_step (zB HB) hb); (try clear hb); (try clear hb2); (try clear hk); (try clear hi); (try clear ho0); refine hK.out _ _ ⟨(blk_cell BK250.out 0).trans rfl, (blk_cell BK250.out 1).trans rfl⟩ (fun hHeld => ?_); clear hK K; refine znn 16 ?_; refine one_ (i := 5) (N := some 20) #[true, true, true, true, true, true, false, true, false] rfl rfl (one_of HT_.out (by kernel_rfl)) (by decide) (fun K hK => ?_); refine goes_ Tryd.func52 (by kernel_rfl) rfl #[.agg #[.int .i64 a0_0, .slice A0_1 l0_1.length c0_1], .slice A1 l1.length c1, .int .i64 a2] (by rfl) rfl rfl (by (try simp only [List.map_toArray, List.map_cons, List.map_nil]); first | done | rfl | (simp only [List.length_drop, List.length_take]; rfl)) ?_; with_reducible refine (enforce_duties.calls k a0_0 _ _ l0_1 _ _ l1 a2 t256 _ ?side1 ?side2 ?side3 ?side4 ?side5 A6.out).mono ?_
     (case side1 => exact zCb HR0_1 HB); (case side2 => exact HC0_1.out); (case side3 => exact zCb HR1 HB); (case side4 => exact HC1.out); (case side5 => exact TabT.now HTab.out (zB HB)); rintro e w12 ⟨v257, rfl, ho0, hb⟩; refine ⟨_, rfl, ?_⟩; have HO258 := Aside0.mk (Kd.S_lower ho0 (below_size (zB HB))); replace HO255 := Aside0.mk (Kd.R_below (zR HO255) hb); replace BK250 := Aside0.mk (zKb BK250 hb); replace BK251 := Aside0.mk (zKb BK251 hb); replace BK259 := Aside0.mk (zKb BK259 hb); replace HB := Aside0.mk (below_step (zB HB) hb); (try clear hb); (try clear hb2); (try clear hk); (try clear hi); (try clear ho0); obtain ⟨Ao13, co13, eo13⟩ := Kd.S_slice HO258.out; (first | subst eo13 | (injection eo13 with f1_ f2_ f3_; have f4_ := f1_.symm; have f5_ := f3_.symm; clear f1_ f2_ f3_; subst f4_; subst f5_)); obtain ⟨Ao14, co14, eo14⟩ := Kd.R_slice HO255.out; (first | subst eo14 | (injection eo14 with f1_ f2_ f3_; have f4_ := f1_.symm; have f5_ := f3_.symm; clear f1_ f2_ f3_; subst f4_; subst f5_)); refine hK.out _ _ ⟨(blk_cell BK250.out 0).trans rfl, (blk_cell BK250.out 1).trans rfl⟩ (fun hHeld => ?_); clear hK K; refine znn 20 ?_; refine zpu (i := 6) (n := 21) #[true, true, true, true, true, true, true, true, false] HT_ ?_; exact znj (hCont (.slice Ao14 t253.length co14, .slice Ao13 t256.length co13, gb259) _ ⟨hHeld, (zR HO255), (zS HO258), (zK BK250), (zK BK251), (zK BK259), GW259.out, GE259.out, NB250_259.out, NB259_250.out, NB251_259.out, NB259_251.out, (zB HB)⟩)
 rintro ⟨v254, v257, gb259⟩ w15 ⟨hS_, h0_, h1_, h2_, h3_, h4_, h5_, h6_, h7_, h8_, h9_, h10_, h11_⟩; have HO255 : Aside0 (Kd.R (Kd.int .i64) 3 w15 w.heap.size (fun _ => True) v254 t253) := ⟨h0_⟩; have HO258 : Aside0 (Kd.S (Kd.slice 42 k42) 22 w15 w.heap.size (fun _ => True) v257 t256) := ⟨h1_⟩; have BK259 : Aside0 (w15.heap[gb259]? = some (.cells #[.slice none 0 0, .slice none 0 0, .slice none 0 0] 28 (0, 0))) := ⟨h4_⟩; have GW259 : Aside0 (w.heap.size ≤ gb259) := ⟨h5_⟩; have GE259 : Aside0 (w.heap.size ≤ gb259) := ⟨h6_⟩; have NB250_259 : Aside0 (gb250 ≠ gb259) := ⟨h7_⟩; have NB259_250 : Aside0 (gb259 ≠ gb250) := ⟨h8_⟩; have NB251_259 : Aside0 (gb251 ≠ gb259) := ⟨h9_⟩; have NB259_251 : Aside0 (gb259 ≠ gb251) := ⟨h10_⟩; replace BK250 : Aside0 (w15.heap[gb250]? = some (.cells #[.int .i64 a0_0, .slice A0_1 l0_1.length c0_1] 24 (0, 0))) := ⟨h2_⟩; replace BK251 : Aside0 (w15.heap[gb251]? = some (.cells #[.slice none 0 0, .slice none 0 0, .slice none 0 0] 28 (0, 0))) := ⟨h3_⟩; replace HB : Aside0 (Below w.heap.size w w15) := ⟨h11_⟩; clear h0_ h1_ h2_ h3_ h4_ h5_ h6_ h7_ h8_ h9_ h10_ h11_; have hHeld : w15.cell? ⟨gb250, 0, none⟩ = some (.int .i64 a0_0) ∧ w15.cell? ⟨gb250, 1, none⟩ = some (.slice A0_1 l0_1.length c0_1) := hS_; obtain ⟨Ao16, co16, eo16⟩ := Kd.S_slice HO258.out; (first | subst eo16 | (injection eo16 with f1_ f2_ f3_; have f4_ := f1_.symm; have f5_ := f3_.symm; clear f1_ f2_ f3_; subst f4_; subst f5_)); obtain ⟨Ao17, co17, eo17⟩ := Kd.R_slice HO255.out; (first | subst eo17 | (injection eo17 with f1_ f2_ f3_; have f4_ := f1_.symm; have f5_ := f3_.symm; clear f1_ f2_ f3_; subst f4_; subst f5_)); refine znb ?_; refine one_ (i := 8) (N := none) #[true, true, true, true, true, true, true, true, true] rfl rfl (one_of HT_.out (by kernel_rfl)) (by decide) (fun K hK => ?_); have hs18 := zc BK259 0; have hfs18 := blk_frozen BK259.out 0; have hns18_0 := NB250_259.out; have hns18_1 := NB251_259.out; have hms18_0 := NB259_250.out; have hms18_1 := NB259_251.out; have hs19 := zc BK259 1; have hfs19 := blk_frozen BK259.out 1; have hns19_0 := NB250_259.out; have hns19_1 := NB251_259.out; have hms19_0 := NB259_250.out; have hms19_1 := NB259_251.out; have hs20 := zc BK259 2; have hfs20 := blk_frozen BK259.out 2; have hns20_0 := NB250_259.out; have hns20_1 := NB251_259.out; have hms20_0 := NB259_250.out; have hms20_1 := NB259_251.out; refine skip_ (w1 := ?_) (by rfl) rfl ?_ ?_; rotate_left; · go_simp; rfl
 refine hK.out _ _ ⟨((cell_far (p := ⟨gb259, _, none⟩) NB250_259.out _).trans (((cell_far (p := ⟨gb259, _, none⟩) NB250_259.out _).trans (((cell_far (p := ⟨gb259, _, none⟩) NB250_259.out _).trans (hHeld.1)))))), ((cell_far (p := ⟨gb259, _, none⟩) NB250_259.out _).trans (((cell_far (p := ⟨gb259, _, none⟩) NB250_259.out _).trans (((cell_far (p := ⟨gb259, _, none⟩) NB250_259.out _).trans (hHeld.2))))))⟩ (fun hHeld => ?_); clear hK K; refine done_ (done_of HT_.out (by kernel_rfl)) ?_; have hnb21 := NB259_250.out; have hnc21 := NB250_259.out; have hnb22 := NB259_251.out; have hnc22 := NB251_259.out; have hcz23_0 := zc BK259 0; have hcz23_1 := zc BK259 1; have hcz23_2 := zc BK259 2; have hfz23_0 := blk_frozen BK259.out 0; have hfz23_1 := blk_frozen BK259.out 1; have hfz23_2 := blk_frozen BK259.out 2; try go_wp2
 go_loopg [25] k (fun kq v25 w' => ∃ (x25_1 : Int) (x260001_1 : List (S42)) (u260001 : Value), v25 = .int .i64 x25_1 ∧ Aside0 (enforce_strict.l0 kq l1 t252 t256 (t256.length : Int) x25_1 t253 x260001_1 t256 = some (r1, r2, r3)) ∧ Aside0 (kq ≤ k) ∧ Aside0 (Kd.S (Kd.slice 42 k42) 22 w' w.heap.size (fun k_ => some k_ ≠ (u260001 : Value).ownBlock) (.slice Ao16 t256.length co16) t256) ∧ Aside0 (Kd.R (Kd.int .i64) 3 w' w.heap.size (fun _ => True) (.slice Ao17 t253.length co17) t253) ∧ Aside0 (Kd.R k42 42 w' w.heap.size (fun _ => True) u260001 x260001_1) ∧ Aside0 (Kd.S (Kd.slice 42 k42) 22 w' w.heap.size (fun k_ => some k_ ≠ (u260001 : Value).ownBlock) (.slice Ao16 t256.length co16) t256) ∧ Aside0 (w'.heap[gb250]? = some (.cells #[.int .i64 a0_0, (.slice A0_1 l0_1.length c0_1)] 24 (0, 0))) ∧ Aside0 (w'.heap[gb251]? = some (.cells #[(.slice none 0 0), (.slice none 0 0), (.slice none 0 0)] 28 (0, 0))) ∧ Aside0 (w'.heap[gb259]? = some (.cells #[(.slice Ao17 t253.length co17), u260001, (.slice Ao16 t256.length co16)] 28 (0, 0))) ∧ Aside0 (Below w.heap.size w w'))
 case atStart => exact ⟨(0), (([] : List (S42))), (.slice none 0 0), zv, H', ⟨Nat.le_refl _⟩, ⟨by refine zkS ?_; exact Kd.S_mono (Kd.S_far (p := ⟨gb259, 2, none⟩) (Kd.S_far (p := ⟨gb259, 1, none⟩) (Kd.S_far (p := ⟨gb259, 0, none⟩) (Kd.S_types HO258.out BK259.out (by decide)) (fun _ hk => hk.2) (.slice Ao17 t253.length co17)) (fun _ hk => hk.2) (.slice none 0 0)) (fun _ hk => hk.2) (.slice Ao16 t256.length co16)) (fun _ hk => (by simp [Value.ownBlock]))⟩, ⟨by refine zkR ?_; exact Kd.R_mono (Kd.R_far (p := ⟨gb259, 2, none⟩) (Kd.R_far (p := ⟨gb259, 1, none⟩) (Kd.R_far (p := ⟨gb259, 0, none⟩) (Kd.R_types HO255.out BK259.out (by decide)) (fun _ hk => hk.2) (.slice Ao17 t253.length co17)) (fun _ hk => hk.2) (.slice none 0 0)) (fun _ hk => hk.2) (.slice Ao16 t256.length co16)) (fun _ hk => trivial)⟩, ⟨by first | exact Kd.R_nil _ _ _ _ _ | exact Kd.N_nil _ _ _ _ _ | exact Kd.V_nil _ _ _ _ _ | exact Kd.Q_nil _ _ _ _ _ | exact Kd.S_nil _ _ _ _ _ | exact Kd.R_nil _ _ _ 0 _⟩, ⟨by refine zkS ?_; exact Kd.S_mono (Kd.S_far (p := ⟨gb259, 2, none⟩) (Kd.S_far (p := ⟨gb259, 1, none⟩) (Kd.S_far (p := ⟨gb259, 0, none⟩) (Kd.S_types HO258.out BK259.out (by decide)) (fun _ hk => hk.2) (.slice Ao17 t253.length co17)) (fun _ hk => hk.2) (.slice none 0 0)) (fun _ hk => hk.2) (.slice Ao16 t256.length co16)) (fun _ hk => (by simp [Value.ownBlock]))⟩, ⟨by refine zk ?_; refine blk_far ?_ NB250_259.out _; refine zk ?_; refine blk_far ?_ NB250_259.out _; refine zk ?_; refine blk_far ?_ NB250_259.out _; refine zk ?_; exact BK250.out⟩, ⟨by refine zk ?_; refine blk_far ?_ NB251_259.out _; refine zk ?_; refine blk_far ?_ NB251_259.out _; refine zk ?_; refine blk_far ?_ NB251_259.out _; refine zk ?_; exact BK251.out⟩, ⟨by refine zk ?_; refine blk_put (cs := #[.slice Ao17 t253.length co17, .slice none 0 0, .slice none 0 0]) ?_ 2 _ rfl; refine zk ?_; refine blk_put (cs := #[.slice Ao17 t253.length co17, .slice none 0 0, .slice none 0 0]) ?_ 1 _ rfl; refine zk ?_; refine blk_put (cs := #[.slice none 0 0, .slice none 0 0, .slice none 0 0]) ?_ 0 _ rfl; refine zk ?_; exact BK259.out⟩, ⟨zB HB⟩⟩
 case round =>
  clear H'; try clear c1
  try clear c2
  try clear p2
  try clear c4
  try clear c5
  try clear c7
  try clear c21
  try clear c22
  try clear hcz23_0
  try clear hcz23_1
  try clear hcz23_2
  try clear hfz23_0
  try clear hfz23_1
  try clear hfz23_2
  obtain ⟨x25_1, x260001_1, u260001, rfl, HA, HK1, HO_23, HO_260000, HO_260001, HO_260002, BK250, BK251, BK259, HB⟩ := hrel; cases gk with
  | zero => exact absurd HA.out (by simp [enforce_strict.l0])
  | succ k1 =>
   have H := HA.out; clear HA; simp only [enforce_strict.l0] at H; by_cases c24 : x25_1 < (t256.length : Int)
   · rw [if_pos c24] at H; have c24b0 : decide (x25_1 < (t256.length : Int)) = true := decide_eq_true c24; clear c24; by_cases c25 : 0 ≤ x25_1
     · rw [if_pos c25] at H; have c25b0 : decide (0 ≤ x25_1) = true := decide_eq_true c25; clear c25; by_cases c26 : x25_1 < (t256.length : Int)
       · rw [if_pos c26] at H; have c26b0 : decide (x25_1 < (t256.length : Int)) = true := decide_eq_true c26; clear c26; by_cases c27 : 0 < ((rd_L2 t256 x25_1).length : Int)
         · rw [if_pos c27] at H; have c27b0 : decide (0 < ((rd_L2 t256 x25_1).length : Int)) = true := decide_eq_true c27; have c27b1 : decide (0 < (rd_L2 t256 x25_1).length) = true := decide_eq_true (by omega); clear c27; have HC28 := Aside0.mk H; clear H; have p260 : 0 ≤ (x25_1 : Int) := of_decide_eq_true (by first | (with_reducible assumption) | assumption); have q260 : x25_1 < (t256.length : Int) := of_decide_eq_true (by first | (with_reducible assumption) | assumption); obtain ⟨ad260, A260_0, c260_0, e260, hx260_0, hl260_0, hi260_0⟩ := at_L2 (Kd.S_reads' HO_23.out).2.2 x25_1 p260 q260; cases e260; obtain ⟨ce260, hce260, hMe260, hcc260⟩ := Kd.S_get HO_23.out [] x25_1 p260 (by first | exact q260 | exact of_decide_eq_true (by first | (with_reducible assumption) | assumption) | (have e_ := (Kd.S_reads' HO_23.out).1; omega)); obtain ⟨ve260_0, rfl, ge260_0⟩ := hMe260; have hv260_0 := hcc260 0 _ rfl; rw [Nat.add_zero, show ((Kd.slice 42 k42)).sz = 1 from rfl, Nat.mul_one] at hv260_0; replace hv260_0 := Option.some.inj (hv260_0.symm.trans hx260_0); rw [hv260_0] at ge260_0; have HL260_0 := Aside0.mk (show Kd.R k42 42 _ _ _ _ (rd_L2 t256 x25_1) from ge260_0); clear hv260_0 ge260_0; clear hcc260 hce260; have HR260_0 := Aside0.mk hi260_0; have HC260_0 := Aside0.mk hl260_0; clear hi260_0 hl260_0; replace p260 := eq_true p260; replace q260 := eq_true q260; have p261 : 0 ≤ (0 : Int) := (by omega); have q261 : 0 < ((rd_L2 t256 x25_1).length : Int) := of_decide_eq_true (by first | (with_reducible assumption) | assumption); obtain ⟨ad261, e261, hx261_0, hx261_1⟩ := at_T42 (zC HR260_0) 0 p261 q261; cases e261; have qi261 : (0 < (rd_L2 t256 x25_1).length) = True := eq_true (by omega); (try rw [show ((0 : Int)).toNat = 0 from rfl] at hx261_0); (try rw [show 0 * 2 = 0 from rfl] at hx261_0); (try rw [Addr.add_zero'] at hx261_0); (try rw [show ((0 : Int)).toNat = 0 from rfl] at hx261_1); (try rw [show 0 * 2 = 0 from rfl] at hx261_1); (try rw [Addr.add_zero'] at hx261_1); replace p261 := eq_true p261; replace q261 := eq_true q261; go_upto_region 7 with (first | ((with_reducible refine gate_dst (N := 11) rfl ?_); refine zX (N := 11) (cs := #[.int .i64 0, .int .i64 0]) (t := 42) ?_; intro gb262 hg w29 hbox hb; have BK262 := Aside0.mk (hbox); have GW262 := Aside0.mk (zW hg HB); have GE262 := Aside0.mk (zW hg HB); have NB250_262 := Aside0.mk (zNl hg BK250); have NB262_250 := Aside0.mk (zNr hg BK250); have NB251_262 := Aside0.mk (zNl hg BK251); have NB262_251 := Aside0.mk (zNr hg BK251); have NB259_262 := Aside0.mk (zNl hg BK259); have NB262_259 := Aside0.mk (zNr hg BK259); replace HO_23 := Aside0.mk (Kd.S_below (Kd.S_elderB (zS HO_23) gb262 (Nat.le_of_eq hg.symm)) hb); replace HO_260000 := Aside0.mk (Kd.R_below (zR HO_260000) hb); replace HO_260001 := Aside0.mk (Kd.R_below (Kd.R_elderB (zR HO_260001) gb262 (Nat.le_of_eq hg.symm)) hb); replace HO_260002 := Aside0.mk (Kd.S_below (Kd.S_elderB (zS HO_260002) gb262 (Nat.le_of_eq hg.symm)) hb); replace HL260_0 := Aside0.mk (Kd.R_below (Kd.R_elderB (zR HL260_0) gb262 (Nat.le_of_eq hg.symm)) hb); replace BK250 := Aside0.mk (zKb BK250 hb); replace BK251 := Aside0.mk (zKb BK251 hb); replace BK259 := Aside0.mk (zKb BK259 hb); replace HR260_0 := Aside0.mk (Kd.C_below (zC HR260_0) hb); replace HB := Aside0.mk (below_step (zB HB) hb); clear hb hbox hg; have hnb30 := NB262_250.out; have hnc30 := NB250_262.out; have hnb31 := NB262_251.out; have hnc31 := NB251_262.out; have hnb32 := NB262_259.out; have hnc32 := NB259_262.out; have hcz33_0 := zc BK262 0; have hcz33_1 := zc BK262 1; have hfz33_0 := blk_frozen BK262.out 0; have hfz33_1 := blk_frozen BK262.out 1))
           (try simp only [Act.put, List.setIfInBounds_toArray, List.set_cons_zero, List.set_cons_succ]); go_cut [43] (fun v43 wc => ∃ (kq : Nat) (x43_27 : Bool), v43 = .bool x43_27 ∧ Aside0 (enforce_strict.j1 kq l1 t252 t256 (t256.length : Int) x25_1 x43_27 t253 x260001_1 t256 ((rd_T42 (rd_L2 t256 x25_1) 0).f0) ((rd_T42 (rd_L2 t256 x25_1) 0).f1) = some (r1, r2, r3)) ∧ Aside0 (kq ≤ k1) ∧ Aside0 (Kd.S (Kd.slice 42 k42) 22 wc w.heap.size (fun k_ => some k_ ≠ (u260001 : Value).ownBlock ∧ k_ ≠ gb262) (.slice (some ad260) t256.length co16) t256) ∧ Aside0 (Kd.R (Kd.int .i64) 3 wc w.heap.size (fun _ => True) (.slice Ao17 t253.length co17) t253) ∧ Aside0 (Kd.R k42 42 wc w.heap.size (fun k_ => k_ ≠ gb262) u260001 x260001_1) ∧ Aside0 (Kd.S (Kd.slice 42 k42) 22 wc w.heap.size (fun k_ => some k_ ≠ (u260001 : Value).ownBlock ∧ k_ ≠ gb262) (.slice (some ad260) t256.length co16) t256) ∧ Aside0 (wc.heap[gb250]? = some (.cells #[.int .i64 a0_0, (.slice A0_1 l0_1.length c0_1)] 24 (0, 0))) ∧ Aside0 (wc.heap[gb251]? = some (.cells #[(.slice none 0 0), (.slice none 0 0), (.slice none 0 0)] 28 (0, 0))) ∧ Aside0 (wc.heap[gb259]? = some (.cells #[(.slice Ao17 t253.length co17), u260001, (.slice (some ad260) t256.length co16)] 28 (0, 0))) ∧ Aside0 (wc.heap[gb262]? = some (.cells #[.int .i64 ((rd_T42 (rd_L2 t256 x25_1) 0).f0), .int .i64 ((rd_T42 (rd_L2 t256 x25_1) 0).f1)] 42 (0, 0))) ∧ Aside0 (Kd.C k42 wc (some ad261) (rd_L2 t256 x25_1).length (rd_L2 t256 x25_1)) ∧ Aside0 (Below w.heap.size w wc))
           case first =>
            have H := HC28.out; clear HC28; replace H := Option.bind_eq_some_iff.mp H; obtain ⟨t263, A340, H⟩ := H; replace H : (if t263 = true then ((network_Set_Has.f t252 ((rd_T42 (rd_L2 t256 x25_1) 0).f1)).bind fun t264 => (enforce_strict.j1 k1 l1 t252 t256 (t256.length : Int) x25_1 (!t264) t253 x260001_1 t256 ((rd_T42 (rd_L2 t256 x25_1) 0).f0) ((rd_T42 (rd_L2 t256 x25_1) 0).f1))) else (enforce_strict.j1 k1 l1 t252 t256 (t256.length : Int) x25_1 true t253 x260001_1 t256 ((rd_T42 (rd_L2 t256 x25_1) 0).f0) ((rd_T42 (rd_L2 t256 x25_1) 0).f1))) = some (r1, r2, r3) := H; have A34 := Aside0.mk A340; clear A340; by_cases c35 : t263 = true
            · subst c35; have H1 : ((network_Set_Has.f t252 ((rd_T42 (rd_L2 t256 x25_1) 0).f1)).bind fun t264 => (enforce_strict.j1 k1 l1 t252 t256 (t256.length : Int) x25_1 (!t264) t253 x260001_1 t256 ((rd_T42 (rd_L2 t256 x25_1) 0).f0) ((rd_T42 (rd_L2 t256 x25_1) 0).f1))) = some (r1, r2, r3) := by rw [if_pos rfl] at H; exact H
              clear H; have H := H1; clear H1; replace H := Option.bind_eq_some_iff.mp H; obtain ⟨t264, A360, H⟩ := H; replace H : (enforce_strict.j1 k1 l1 t252 t256 (t256.length : Int) x25_1 (!t264) t253 x260001_1 t256 ((rd_T42 (rd_L2 t256 x25_1) 0).f0) ((rd_T42 (rd_L2 t256 x25_1) 0).f1)) = some (r1, r2, r3) := H; have A36 := Aside0.mk A360; clear A360; have H' := Aside0.mk H; clear H; have hnb37 := NB262_250.out; have hnc37 := NB250_262.out; have hnb38 := NB262_251.out; have hnc38 := NB251_262.out; have hnb39 := NB262_259.out; have hnc39 := NB259_262.out; have hcz40_0 := zc BK262 0; have hcz40_1 := zc BK262 1; have hfz40_0 := blk_frozen BK262.out 0; have hfz40_1 := blk_frozen BK262.out 1; go_wp2_with (first | ((with_reducible refine gate_callee (f := 77) rfl ?_); refine zG (some 35) rfl Tryd.func77 #[.int .u64 t252, .int .i64 ((rd_T42 (rd_L2 t256 x25_1) 0).f0)] ?_; (with_reducible refine (network_Set_Has.calls t252 ((rd_T42 (rd_L2 t256 x25_1) 0).f0) true _ A34.out).mono ?_); rintro e w' ⟨rfl, ⟨nd, rfl⟩⟩; refine ⟨_, rfl, ?_⟩) | (go_at_call 77; (with_reducible refine (network_Set_Has.calls t252 ((rd_T42 (rd_L2 t256 x25_1) 0).f1) t264 _ A36.out).mono ?_); rintro e w' ⟨rfl, ⟨nd, rfl⟩⟩)); go_meet
              case rel => exact ⟨_, (!t264), zv, H', ⟨by have := HK1.out; first | omega | exact Nat.le_refl _⟩, ⟨by refine zkS ?_; exact Kd.S_mono (Kd.S_far (p := ⟨gb262, 1, none⟩) (Kd.S_far (p := ⟨gb262, 0, none⟩) (Kd.S_mono HO_23.out (fun k_ hk => (⟨hk, hk.2⟩ : _ ∧ k_ ≠ gb262))) (fun _ hk => hk.2) (.int .i64 ((rd_T42 (rd_L2 t256 x25_1) 0).f0))) (fun _ hk => hk.2) (.int .i64 ((rd_T42 (rd_L2 t256 x25_1) 0).f1))) (fun _ hk => ⟨hk.1.1, hk.1.2⟩)⟩, ⟨by refine zkR ?_; exact Kd.R_mono (Kd.R_far (p := ⟨gb262, 1, none⟩) (Kd.R_far (p := ⟨gb262, 0, none⟩) (Kd.R_types HO_260000.out BK262.out (by decide)) (fun _ hk => hk.2) (.int .i64 ((rd_T42 (rd_L2 t256 x25_1) 0).f0))) (fun _ hk => hk.2) (.int .i64 ((rd_T42 (rd_L2 t256 x25_1) 0).f1))) (fun _ hk => trivial)⟩, ⟨by refine zkR ?_; exact Kd.R_mono (Kd.R_far (p := ⟨gb262, 1, none⟩) (Kd.R_far (p := ⟨gb262, 0, none⟩) (Kd.R_mono HO_260001.out (fun k_ hk => (⟨hk, hk.2⟩ : _ ∧ k_ ≠ gb262))) (fun _ hk => hk.2) (.int .i64 ((rd_T42 (rd_L2 t256 x25_1) 0).f0))) (fun _ hk => hk.2) (.int .i64 ((rd_T42 (rd_L2 t256 x25_1) 0).f1))) (fun _ hk => hk.1.2)⟩, ⟨by refine zkS ?_; exact Kd.S_mono (Kd.S_far (p := ⟨gb262, 1, none⟩) (Kd.S_far (p := ⟨gb262, 0, none⟩) (Kd.S_mono HO_260002.out (fun k_ hk => (⟨hk, hk.2⟩ : _ ∧ k_ ≠ gb262))) (fun _ hk => hk.2) (.int .i64 ((rd_T42 (rd_L2 t256 x25_1) 0).f0))) (fun _ hk => hk.2) (.int .i64 ((rd_T42 (rd_L2 t256 x25_1) 0).f1))) (fun _ hk => ⟨hk.1.1, hk.1.2⟩)⟩, ⟨by refine zk ?_; refine blk_far ?_ NB250_262.out _; refine zk ?_; refine blk_far ?_ NB250_262.out _; refine zk ?_; exact BK250.out⟩, ⟨by refine zk ?_; refine blk_far ?_ NB251_262.out _; refine zk ?_; refine blk_far ?_ NB251_262.out _; refine zk ?_; exact BK251.out⟩, ⟨by refine zk ?_; refine blk_far ?_ NB259_262.out _; refine zk ?_; refine blk_far ?_ NB259_262.out _; refine zk ?_; exact BK259.out⟩, ⟨by refine zk ?_; refine blk_put (cs := #[.int .i64 ((rd_T42 (rd_L2 t256 x25_1) 0).f0), .int .i64 0]) ?_ 1 _ rfl; refine zk ?_; refine blk_put (cs := #[.int .i64 0, .int .i64 0]) ?_ 0 _ rfl; refine zk ?_; exact BK262.out⟩, ⟨(Kd.R_reads' (by refine zkR ?_; exact (Kd.R_mono (Kd.R_far (p := ⟨gb262, 1, none⟩) (Kd.R_far (p := ⟨gb262, 0, none⟩) (Kd.R_mono HL260_0.out (fun k_ hk => (⟨hk, hk.2⟩ : _ ∧ k_ ≠ gb262))) (fun _ hk => hk.2) (.int .i64 ((rd_T42 (rd_L2 t256 x25_1) 0).f0))) (fun _ hk => hk.2) (.int .i64 ((rd_T42 (rd_L2 t256 x25_1) 0).f1))) (fun _ h_ => h_.1)))).2.2⟩, ⟨zB HB⟩⟩
            · replace c35 := Bool.eq_false_iff.mpr c35; subst c35; have H1 : (enforce_strict.j1 k1 l1 t252 t256 (t256.length : Int) x25_1 true t253 x260001_1 t256 ((rd_T42 (rd_L2 t256 x25_1) 0).f0) ((rd_T42 (rd_L2 t256 x25_1) 0).f1)) = some (r1, r2, r3) := by rw [if_neg (show ¬ (false = true) by decide)] at H; exact H
              clear H; have H := H1; clear H1; have H' := Aside0.mk H; clear H; have hnb41 := NB262_250.out; have hnc41 := NB250_262.out; have hnb42 := NB262_251.out; have hnc42 := NB251_262.out; have hnb43 := NB262_259.out; have hnc43 := NB259_262.out; have hcz44_0 := zc BK262 0; have hcz44_1 := zc BK262 1; have hfz44_0 := blk_frozen BK262.out 0; have hfz44_1 := blk_frozen BK262.out 1; go_wp2_with (first | ((with_reducible refine gate_callee (f := 77) rfl ?_); refine zG (some 35) rfl Tryd.func77 #[.int .u64 t252, .int .i64 ((rd_T42 (rd_L2 t256 x25_1) 0).f0)] ?_; (with_reducible refine (network_Set_Has.calls t252 ((rd_T42 (rd_L2 t256 x25_1) 0).f0) false _ A34.out).mono ?_); rintro e w' ⟨rfl, ⟨nd, rfl⟩⟩; refine ⟨_, rfl, ?_⟩)); go_meet
              case rel => exact ⟨_, (true), zv, H', ⟨by have := HK1.out; first | omega | exact Nat.le_refl _⟩, ⟨by refine zkS ?_; exact Kd.S_mono (Kd.S_far (p := ⟨gb262, 1, none⟩) (Kd.S_far (p := ⟨gb262, 0, none⟩) (Kd.S_mono HO_23.out (fun k_ hk => (⟨hk, hk.2⟩ : _ ∧ k_ ≠ gb262))) (fun _ hk => hk.2) (.int .i64 ((rd_T42 (rd_L2 t256 x25_1) 0).f0))) (fun _ hk => hk.2) (.int .i64 ((rd_T42 (rd_L2 t256 x25_1) 0).f1))) (fun _ hk => ⟨hk.1.1, hk.1.2⟩)⟩, ⟨by refine zkR ?_; exact Kd.R_mono (Kd.R_far (p := ⟨gb262, 1, none⟩) (Kd.R_far (p := ⟨gb262, 0, none⟩) (Kd.R_types HO_260000.out BK262.out (by decide)) (fun _ hk => hk.2) (.int .i64 ((rd_T42 (rd_L2 t256 x25_1) 0).f0))) (fun _ hk => hk.2) (.int .i64 ((rd_T42 (rd_L2 t256 x25_1) 0).f1))) (fun _ hk => trivial)⟩, ⟨by refine zkR ?_; exact Kd.R_mono (Kd.R_far (p := ⟨gb262, 1, none⟩) (Kd.R_far (p := ⟨gb262, 0, none⟩) (Kd.R_mono HO_260001.out (fun k_ hk => (⟨hk, hk.2⟩ : _ ∧ k_ ≠ gb262))) (fun _ hk => hk.2) (.int .i64 ((rd_T42 (rd_L2 t256 x25_1) 0).f0))) (fun _ hk => hk.2) (.int .i64 ((rd_T42 (rd_L2 t256 x25_1) 0).f1))) (fun _ hk => hk.1.2)⟩, ⟨by refine zkS ?_; exact Kd.S_mono (Kd.S_far (p := ⟨gb262, 1, none⟩) (Kd.S_far (p := ⟨gb262, 0, none⟩) (Kd.S_mono HO_260002.out (fun k_ hk => (⟨hk, hk.2⟩ : _ ∧ k_ ≠ gb262))) (fun _ hk => hk.2) (.int .i64 ((rd_T42 (rd_L2 t256 x25_1) 0).f0))) (fun _ hk => hk.2) (.int .i64 ((rd_T42 (rd_L2 t256 x25_1) 0).f1))) (fun _ hk => ⟨hk.1.1, hk.1.2⟩)⟩, ⟨by refine zk ?_; refine blk_far ?_ NB250_262.out _; refine zk ?_; refine blk_far ?_ NB250_262.out _; refine zk ?_; exact BK250.out⟩, ⟨by refine zk ?_; refine blk_far ?_ NB251_262.out _; refine zk ?_; refine blk_far ?_ NB251_262.out _; refine zk ?_; exact BK251.out⟩, ⟨by refine zk ?_; refine blk_far ?_ NB259_262.out _; refine zk ?_; refine blk_far ?_ NB259_262.out _; refine zk ?_; exact BK259.out⟩, ⟨by refine zk ?_; refine blk_put (cs := #[.int .i64 ((rd_T42 (rd_L2 t256 x25_1) 0).f0), .int .i64 0]) ?_ 1 _ rfl; refine zk ?_; refine blk_put (cs := #[.int .i64 0, .int .i64 0]) ?_ 0 _ rfl; refine zk ?_; exact BK262.out⟩, ⟨(Kd.R_reads' (by refine zkR ?_; exact (Kd.R_mono (Kd.R_far (p := ⟨gb262, 1, none⟩) (Kd.R_far (p := ⟨gb262, 0, none⟩) (Kd.R_mono HL260_0.out (fun k_ hk => (⟨hk, hk.2⟩ : _ ∧ k_ ≠ gb262))) (fun _ hk => hk.2) (.int .i64 ((rd_T42 (rd_L2 t256 x25_1) 0).f0))) (fun _ hk => hk.2) (.int .i64 ((rd_T42 (rd_L2 t256 x25_1) 0).f1))) (fun _ h_ => h_.1)))).2.2⟩, ⟨zB HB⟩⟩
           case rest =>
            clear HC28; try clear c1
            try clear c2
            try clear p2
            try clear q2
            try clear hx2
            try clear qi2
            try clear c3
            try clear c4
            try clear c5
            try clear c7
            try clear c21
            try clear c22
            try clear c24
            try clear c24b0
            try clear c25
            try clear c25b0
            try clear c26
            try clear c26b0
            try clear p26
            try clear q26
            try clear hx26
            try clear qi26
            try clear c27
            try clear c27b0
            try clear c27b1
            try clear c30
            try clear c31
            try clear c32
            try clear c35
            try clear c37
            try clear c38
            try clear c39
            try clear c41
            try clear c42
            try clear c43
            try clear hcz23_0
            try clear hcz23_1
            try clear hcz23_2
            try clear hcz33_0
            try clear hcz33_1
            try clear hcz40_0
            try clear hcz40_1
            try clear hcz44_0
            try clear hcz44_1
            try clear hfz23_0
            try clear hfz23_1
            try clear hfz23_2
            try clear hfz33_0
            try clear hfz33_1
            try clear hfz40_0
            try clear hfz40_1
            try clear hfz44_0
            try clear hfz44_1
            try clear hx260_0
            try clear hx261_0
            try clear hx261_1
            try clear p2
            try clear p260
            try clear p261
            try clear q260
            try clear q261
            obtain ⟨kq, x43_27, rfl, HA, HJ27, HO_23, HO_260000, HO_260001, HO_260002, BK250, BK251, BK259, BK262, HR260_0, HB⟩ := hcut; cases kq with
            | zero => exact absurd HA.out (by simp [enforce_strict.j1])
            | succ kj27 =>
             have H := HA.out; clear HA; simp only [enforce_strict.j1] at H; by_cases c45 : x43_27 = true
             · subst c45; have H1 : ((network_Set_Has.f t252 ((rd_T42 (rd_L2 t256 x25_1) 0).f1)).bind fun t265 => (if t265 = true then (if 0 < (l1.length : Int) then (if x260001_1.length < 8796093022208 then (enforce_strict.l0 kj27 l1 t252 t256 (t256.length : Int) (wrap64 (x25_1 + 1)) t253 (x260001_1 ++ [(⟨rd l1 0, ((rd_T42 (rd_L2 t256 x25_1) 0).f0)⟩ : S42)]) t256) else (none)) else (none)) else (if 0 < (l1.length : Int) then (if x260001_1.length < 8796093022208 then (enforce_strict.l0 kj27 l1 t252 t256 (t256.length : Int) (wrap64 (x25_1 + 1)) t253 (x260001_1 ++ [(⟨rd l1 0, ((rd_T42 (rd_L2 t256 x25_1) 0).f1)⟩ : S42)]) t256) else (none)) else (none)))) = some (r1, r2, r3) := by rw [if_pos rfl] at H; exact H
               clear H; have H := H1; clear H1; replace H := Option.bind_eq_some_iff.mp H; obtain ⟨t265, A460, H⟩ := H; replace H : (if t265 = true then (if 0 < (l1.length : Int) then (if x260001_1.length < 8796093022208 then (enforce_strict.l0 kj27 l1 t252 t256 (t256.length : Int) (wrap64 (x25_1 + 1)) t253 (x260001_1 ++ [(⟨rd l1 0, ((rd_T42 (rd_L2 t256 x25_1) 0).f0)⟩ : S42)]) t256) else (none)) else (none)) else (if 0 < (l1.length : Int) then (if x260001_1.length < 8796093022208 then (enforce_strict.l0 kj27 l1 t252 t256 (t256.length : Int) (wrap64 (x25_1 + 1)) t253 (x260001_1 ++ [(⟨rd l1 0, ((rd_T42 (rd_L2 t256 x25_1) 0).f1)⟩ : S42)]) t256) else (none)) else (none))) = some (r1, r2, r3) := H; have A46 := Aside0.mk A460; clear A460; by_cases c47 : t265 = true
               · subst c47; have H1 : (if 0 < (l1.length : Int) then (if x260001_1.length < 8796093022208 then (enforce_strict.l0 kj27 l1 t252 t256 (t256.length : Int) (wrap64 (x25_1 + 1)) t253 (x260001_1 ++ [(⟨rd l1 0, ((rd_T42 (rd_L2 t256 x25_1) 0).f0)⟩ : S42)]) t256) else (none)) else (none)) = some (r1, r2, r3) := by rw [if_pos rfl] at H; exact H
                 clear H; have H := H1; clear H1; by_cases c48 : 0 < (l1.length : Int)
                 · rw [if_pos c48] at H; have c48b0 : decide (0 < (l1.length : Int)) = true := decide_eq_true c48; have c48b1 : decide (0 < l1.length) = true := decide_eq_true (by omega); clear c48; by_cases c49 : x260001_1.length < 8796093022208
                   · rw [if_pos c49] at H; have LMc49 := Aside0.mk c49; clear c49; obtain ⟨y267, hy267⟩ : ∃ y_ : List (S42), y_ = (x260001_1 ++ [(⟨rd l1 0, ((rd_T42 (rd_L2 t256 x25_1) 0).f0)⟩ : S42)]) := ⟨_, rfl⟩; replace H : (enforce_strict.l0 kj27 l1 t252 t256 (t256.length : Int) (wrap64 (x25_1 + 1)) t253 y267 t256) = some (r1, r2, r3) := by first | (rw [hy267]; with_reducible exact H) | (have H2_ := (Option.bind_some _ _).symm.trans H; rw [hy267]; with_reducible exact H2_) | (have H2_ := (Option.bind_some _ _).symm.trans H; with_reducible exact H2_) | with_reducible exact H | (rw [hy267]; exact H) | exact H
                     have Ny267 := Aside0.mk hy267; clear hy267; have H' := Aside0.mk H; clear H; have hnb50 := NB262_250.out; have hnc50 := NB250_262.out; have hnb51 := NB262_251.out; have hnc51 := NB251_262.out; have hnb52 := NB262_259.out; have hnc52 := NB259_262.out; have hcz53_0 := zc BK262 0; have hcz53_1 := zc BK262 1; have hfz53_0 := blk_frozen BK262.out 0; have hfz53_1 := blk_frozen BK262.out 1; go_wp2_with (first | ((with_reducible refine gate_callee (f := 77) rfl ?_); refine zG (some 49) rfl Tryd.func77 #[.int .u64 t252, .int .i64 ((rd_T42 (rd_L2 t256 x25_1) 0).f1)] ?_; (with_reducible refine (network_Set_Has.calls t252 ((rd_T42 (rd_L2 t256 x25_1) 0).f1) true _ A46.out).mono ?_); rintro e w' ⟨rfl, ⟨nd, rfl⟩⟩; refine ⟨_, rfl, ?_⟩; (try (rw [drewN_self wc]; generalize hq_ : World.drewN wc _ = wc; replace HO_23 : Aside0 (Kd.S (Kd.slice 42 k42) 22 wc w.heap.size (fun k_ => some k_ ≠ (u260001 : Value).ownBlock ∧ k_ ≠ gb262) (.slice (some ad260) t256.length co16) t256) := ⟨by rw [← hq_]; exact (zS HO_23)⟩; replace HO_260000 : Aside0 (Kd.R (Kd.int .i64) 3 wc w.heap.size (fun _ => True) (.slice Ao17 t253.length co17) t253) := ⟨by rw [← hq_]; exact (zR HO_260000)⟩; replace HO_260001 : Aside0 (Kd.R k42 42 wc w.heap.size (fun k_ => k_ ≠ gb262) u260001 x260001_1) := ⟨by rw [← hq_]; exact (zR HO_260001)⟩; replace HO_260002 : Aside0 (Kd.S (Kd.slice 42 k42) 22 wc w.heap.size (fun k_ => some k_ ≠ (u260001 : Value).ownBlock ∧ k_ ≠ gb262) (.slice (some ad260) t256.length co16) t256) := ⟨by rw [← hq_]; exact (zS HO_260002)⟩; replace BK250 : Aside0 (wc.heap[gb250]? = some (.cells #[.int .i64 a0_0, .slice A0_1 l0_1.length c0_1] 24 (0, 0))) := ⟨by rw [← hq_]; exact (zK BK250)⟩; replace BK251 : Aside0 (wc.heap[gb251]? = some (.cells #[.slice none 0 0, .slice none 0 0, .slice none 0 0] 28 (0, 0))) := ⟨by rw [← hq_]; exact (zK BK251)⟩; replace BK259 : Aside0 (wc.heap[gb259]? = some (.cells #[.slice Ao17 t253.length co17, u260001, .slice (some ad260) t256.length co16] 28 (0, 0))) := ⟨by rw [← hq_]; exact (zK BK259)⟩; replace BK262 : Aside0 (wc.heap[gb262]? = some (.cells #[.int .i64 ((rd_T42 (rd_L2 t256 x25_1) 0).f0), .int .i64 ((rd_T42 (rd_L2 t256 x25_1) 0).f1)] 42 (0, 0))) := ⟨by rw [← hq_]; exact (zK BK262)⟩; replace HB : Aside0 (Below w.heap.size w wc) := ⟨by rw [← hq_]; exact (zB HB)⟩; replace HR260_0 : Aside0 (Kd.C k42 wc (some ad261) (rd_L2 t256 x25_1).length (rd_L2 t256 x25_1)) := ⟨by rw [← hq_]; exact (zC HR260_0)⟩; clear hq_)); have hcz54_0 := zc BK262 0; have hcz54_1 := zc BK262 1; have hfz54_0 := blk_frozen BK262.out 0; have hfz54_1 := blk_frozen BK262.out 1; have p266 : 0 ≤ (0 : Int) := (by omega); have q266 : 0 < (l1.length : Int) := of_decide_eq_true (by first | (with_reducible assumption) | assumption); obtain ⟨ad266, e266, hx266_0⟩ := Kd.at_int HR1.out 0 p266 q266; cases e266; have qi266 : (0 < l1.length) = True := eq_true (by omega); (try rw [show ((0 : Int)).toNat = 0 from rfl] at hx266_0); (try rw [Addr.add_zero'] at hx266_0); replace hx266_0 := (HB.out.cell (World.block_lt_of_cell? w _ hx266_0)).trans hx266_0; replace p266 := eq_true p266; replace q266 := eq_true q266; have hnb55 := NB259_250.out; have hnc55 := NB250_259.out; have hnb56 := NB259_251.out; have hnc56 := NB251_259.out; have hcz57_0 := zc BK259 0; have hcz57_1 := zc BK259 1; have hcz57_2 := zc BK259 2; have hfz57_0 := blk_frozen BK259.out 0; have hfz57_1 := blk_frozen BK259.out 1; have hfz57_2 := blk_frozen BK259.out 2) | ((with_reducible refine gate_builtin (b := .append) (xs := #[.tmp 58, .tmp 60]) rfl ?_); at_builtin; refine Kd.R_append k42 (w0 := w) w.heap.size rfl (.tmp 58) (.tmp 60) 22 42 (.agg #[(.int .i64 0), (.int .i64 0)]) 16 rfl Tryd.underlying22 info42 rfl (by decide) (by omega) u260001 x260001_1 (⟨rd l1 0, ((rd_T42 (rd_L2 t256 x25_1) 0).f0)⟩ : S42) [.int .i64 (rd l1 0), .int .i64 ((rd_T42 (rd_L2 t256 x25_1) 0).f0)] (fun k_ => k_ ≠ gb262) (fun _ => False) rfl (by first | (go_simp; done) | (go_simp; rfl)) ?aP (fun _ hk => hk.elim) ?aF ?aO ?aB ?aS ?aL ?_; (case aP => exact k42_mkM _ _ _ (⟨rd l1 0, ((rd_T42 (rd_L2 t256 x25_1) 0).f0)⟩ : S42)); (case aB => exact (zB HB)); (case aF => exact (fun k_ hk => Kd.freshB (g := gb262) (o := .cells #[.int .i64 (rd l1 0), .int .i64 ((rd_T42 (rd_L2 t256 x25_1) 0).f0)] 42 (0, 0)) (by refine zk ?_; refine blk_put (cs := #[.int .i64 (rd l1 0), .int .i64 ((rd_T42 (rd_L2 t256 x25_1) 0).f1)]) ?_ 1 _ rfl; refine zk ?_; refine blk_put (cs := #[.int .i64 ((rd_T42 (rd_L2 t256 x25_1) 0).f0), .int .i64 ((rd_T42 (rd_L2 t256 x25_1) 0).f1)]) ?_ 0 _ rfl; refine zk ?_; exact BK262.out) k_ hk)); (case aO => exact (by refine zkR ?_; exact Kd.R_mono (Kd.R_far (p := ⟨gb262, 1, none⟩) (Kd.R_far (p := ⟨gb262, 0, none⟩) (Kd.R_mono HO_260001.out (fun k_ hk => (⟨hk, hk⟩ : _ ∧ k_ ≠ gb262))) (fun _ hk => hk.2) (.int .i64 (rd l1 0))) (fun _ hk => hk.2) (.int .i64 ((rd_T42 (rd_L2 t256 x25_1) 0).f0))) (fun _ hk => hk.1))); (case aS => exact (below_size (zB HB))); (case aL => have := LMc49.out; omega); intro v268 w58 ho hb hg hat; rw [← Ny267.out] at ho; have HO269 := Aside0.mk (ho); replace HO_23 := Aside0.mk (Kd.S_after (ok := (fun k_ => k_ ≠ gb262)) (by refine zkS ?_; exact Kd.S_mono (Kd.S_far (p := ⟨gb262, 1, none⟩) (Kd.S_far (p := ⟨gb262, 0, none⟩) (Kd.S_mono HO_23.out (fun k_ hk => (⟨hk, hk.2⟩ : _ ∧ k_ ≠ gb262))) (fun _ hk => hk.2) (.int .i64 (rd l1 0))) (fun _ hk => hk.2) (.int .i64 ((rd_T42 (rd_L2 t256 x25_1) 0).f0))) (fun _ hk => ⟨hk.1.2, hk.1.1⟩)) hg hat); replace HO_260000 := Aside0.mk (Kd.R_over' (by refine zkR ?_; exact (Kd.R_mono (Kd.R_far (p := ⟨gb262, 1, none⟩) (Kd.R_far (p := ⟨gb262, 0, none⟩) (Kd.R_types HO_260000.out BK262.out (by decide)) (fun _ hk => hk.2) (.int .i64 (rd l1 0))) (fun _ hk => hk.2) (.int .i64 ((rd_T42 (rd_L2 t256 x25_1) 0).f0))) (fun _ h_ => h_.1))) (Kd.R_typed (by refine zkR ?_; exact (Kd.R_mono (Kd.R_far (p := ⟨gb262, 1, none⟩) (Kd.R_far (p := ⟨gb262, 0, none⟩) (Kd.R_mono HO_260001.out (fun k_ hk => (⟨hk, hk⟩ : _ ∧ k_ ≠ gb262))) (fun _ hk => hk.2) (.int .i64 (rd l1 0))) (fun _ hk => hk.2) (.int .i64 ((rd_T42 (rd_L2 t256 x25_1) 0).f0))) (fun _ h_ => h_.1)))) (by decide) hg); replace HO_260002 := Aside0.mk (Kd.S_after (ok := (fun k_ => k_ ≠ gb262)) (by refine zkS ?_; exact Kd.S_mono (Kd.S_far (p := ⟨gb262, 1, none⟩) (Kd.S_far (p := ⟨gb262, 0, none⟩) (Kd.S_mono HO_260002.out (fun k_ hk => (⟨hk, hk.2⟩ : _ ∧ k_ ≠ gb262))) (fun _ hk => hk.2) (.int .i64 (rd l1 0))) (fun _ hk => hk.2) (.int .i64 ((rd_T42 (rd_L2 t256 x25_1) 0).f0))) (fun _ hk => ⟨hk.1.2, hk.1.1⟩)) hg hat); replace BK250 := Aside0.mk (blk_grown (g := gb250) (o := .cells #[.int .i64 a0_0, .slice A0_1 l0_1.length c0_1] 24 (0, 0)) (by refine zk ?_; refine blk_far ?_ NB250_262.out _; refine zk ?_; refine blk_far ?_ NB250_262.out _; refine zk ?_; exact BK250.out) hg (Kd.R_ne HO_260001.out BK250.out (by decide))); replace BK251 := Aside0.mk (blk_grown (g := gb251) (o := .cells #[.slice none 0 0, .slice none 0 0, .slice none 0 0] 28 (0, 0)) (by refine zk ?_; refine blk_far ?_ NB251_262.out _; refine zk ?_; refine blk_far ?_ NB251_262.out _; refine zk ?_; exact BK251.out) hg (Kd.R_ne HO_260001.out BK251.out (by decide))); replace BK259 := Aside0.mk (blk_grown (g := gb259) (o := .cells #[.slice Ao17 t253.length co17, u260001, .slice (some ad260) t256.length co16] 28 (0, 0)) (by refine zk ?_; refine blk_far ?_ NB259_262.out _; refine zk ?_; refine blk_far ?_ NB259_262.out _; refine zk ?_; exact BK259.out) hg (Kd.R_ne HO_260001.out BK259.out (by decide))); replace BK262 := Aside0.mk (blk_grown (g := gb262) (o := .cells #[.int .i64 (rd l1 0), .int .i64 ((rd_T42 (rd_L2 t256 x25_1) 0).f0)] 42 (0, 0)) (by refine zk ?_; refine blk_put (cs := #[.int .i64 (rd l1 0), .int .i64 ((rd_T42 (rd_L2 t256 x25_1) 0).f1)]) ?_ 1 _ rfl; refine zk ?_; refine blk_put (cs := #[.int .i64 ((rd_T42 (rd_L2 t256 x25_1) 0).f0), .int .i64 ((rd_T42 (rd_L2 t256 x25_1) 0).f1)]) ?_ 0 _ rfl; refine zk ?_; exact BK262.out) hg (Kd.R_away HO_260001.out (fun _ hk => hk))); replace HB := Aside0.mk (hb); clear HO_260001; clear ho hb hg hat; obtain ⟨Ao59, co59, eo59⟩ := Kd.R_slice HO269.out; subst eo59; have hcz60_0 := zc BK259 0; have hcz60_1 := zc BK259 1; have hcz60_2 := zc BK259 2; have hfz60_0 := blk_frozen BK259.out 0; have hfz60_1 := blk_frozen BK259.out 1; have hfz60_2 := blk_frozen BK259.out 2)); go_roundg kj27
                     case measure => have := HK1.out; have := HJ27.out; omega
                     case rel => exact ⟨(wrap64 (x25_1 + 1)), (y267), (.slice Ao59 y267.length co59), zv, H', ⟨by have := HK1.out; have := HJ27.out; omega⟩, ⟨by refine zkS ?_; exact Kd.S_mono (Kd.S_far (p := ⟨gb259, 1, none⟩) (Kd.S_types HO_23.out BK259.out (by decide)) (fun _ hk => hk.2) (.slice Ao59 y267.length co59)) (fun _ hk => hk.1.2)⟩, ⟨by refine zkR ?_; exact Kd.R_mono (Kd.R_far (p := ⟨gb259, 1, none⟩) (Kd.R_types HO_260000.out BK259.out (by decide)) (fun _ hk => hk.2) (.slice Ao59 y267.length co59)) (fun _ hk => trivial)⟩, ⟨by refine zkR ?_; exact Kd.R_mono (Kd.R_far (p := ⟨gb259, 1, none⟩) (Kd.R_types HO269.out BK259.out (by decide)) (fun _ hk => hk.2) (.slice Ao59 y267.length co59)) (fun _ hk => trivial)⟩, ⟨by refine zkS ?_; exact Kd.S_mono (Kd.S_far (p := ⟨gb259, 1, none⟩) (Kd.S_types HO_260002.out BK259.out (by decide)) (fun _ hk => hk.2) (.slice Ao59 y267.length co59)) (fun _ hk => hk.1.2)⟩, ⟨by refine zk ?_; refine blk_far ?_ NB250_259.out _; refine zk ?_; exact BK250.out⟩, ⟨by refine zk ?_; refine blk_far ?_ NB251_259.out _; refine zk ?_; exact BK251.out⟩, ⟨by refine zk ?_; refine blk_put (cs := #[.slice Ao17 t253.length co17, u260001, .slice (some ad260) t256.length co16]) ?_ 1 _ rfl; refine zk ?_; exact BK259.out⟩, ⟨zB HB⟩⟩
                   · rw [if_neg c49] at H; exact absurd H (by simp)
                 · rw [if_neg c48] at H; exact absurd H (by simp)
               · replace c47 := Bool.eq_false_iff.mpr c47; subst c47; have H1 : (if 0 < (l1.length : Int) then (if x260001_1.length < 8796093022208 then (enforce_strict.l0 kj27 l1 t252 t256 (t256.length : Int) (wrap64 (x25_1 + 1)) t253 (x260001_1 ++ [(⟨rd l1 0, ((rd_T42 (rd_L2 t256 x25_1) 0).f1)⟩ : S42)]) t256) else (none)) else (none)) = some (r1, r2, r3) := by rw [if_neg (show ¬ (false = true) by decide)] at H; exact H
                 clear H; have H := H1; clear H1; by_cases c61 : 0 < (l1.length : Int)
                 · rw [if_pos c61] at H; have c61b0 : decide (0 < (l1.length : Int)) = true := decide_eq_true c61; have c61b1 : decide (0 < l1.length) = true := decide_eq_true (by omega); clear c61; by_cases c62 : x260001_1.length < 8796093022208
                   · rw [if_pos c62] at H; have LMc62 := Aside0.mk c62; clear c62; obtain ⟨y271, hy271⟩ : ∃ y_ : List (S42), y_ = (x260001_1 ++ [(⟨rd l1 0, ((rd_T42 (rd_L2 t256 x25_1) 0).f1)⟩ : S42)]) := ⟨_, rfl⟩; replace H : (enforce_strict.l0 kj27 l1 t252 t256 (t256.length : Int) (wrap64 (x25_1 + 1)) t253 y271 t256) = some (r1, r2, r3) := by first | (rw [hy271]; with_reducible exact H) | (have H2_ := (Option.bind_some _ _).symm.trans H; rw [hy271]; with_reducible exact H2_) | (have H2_ := (Option.bind_some _ _).symm.trans H; with_reducible exact H2_) | with_reducible exact H | (rw [hy271]; exact H) | exact H
                     have Ny271 := Aside0.mk hy271; clear hy271; have H' := Aside0.mk H; clear H; have hnb63 := NB262_250.out; have hnc63 := NB250_262.out; have hnb64 := NB262_251.out; have hnc64 := NB251_262.out; have hnb65 := NB262_259.out; have hnc65 := NB259_262.out; have hcz66_0 := zc BK262 0; have hcz66_1 := zc BK262 1; have hfz66_0 := blk_frozen BK262.out 0; have hfz66_1 := blk_frozen BK262.out 1; go_wp2_with (first | ((with_reducible refine gate_callee (f := 77) rfl ?_); refine zG (some 49) rfl Tryd.func77 #[.int .u64 t252, .int .i64 ((rd_T42 (rd_L2 t256 x25_1) 0).f1)] ?_; (with_reducible refine (network_Set_Has.calls t252 ((rd_T42 (rd_L2 t256 x25_1) 0).f1) false _ A46.out).mono ?_); rintro e w' ⟨rfl, ⟨nd, rfl⟩⟩; refine ⟨_, rfl, ?_⟩; (try (rw [drewN_self wc]; generalize hq_ : World.drewN wc _ = wc; replace HO_23 : Aside0 (Kd.S (Kd.slice 42 k42) 22 wc w.heap.size (fun k_ => some k_ ≠ (u260001 : Value).ownBlock ∧ k_ ≠ gb262) (.slice (some ad260) t256.length co16) t256) := ⟨by rw [← hq_]; exact (zS HO_23)⟩; replace HO_260000 : Aside0 (Kd.R (Kd.int .i64) 3 wc w.heap.size (fun _ => True) (.slice Ao17 t253.length co17) t253) := ⟨by rw [← hq_]; exact (zR HO_260000)⟩; replace HO_260001 : Aside0 (Kd.R k42 42 wc w.heap.size (fun k_ => k_ ≠ gb262) u260001 x260001_1) := ⟨by rw [← hq_]; exact (zR HO_260001)⟩; replace HO_260002 : Aside0 (Kd.S (Kd.slice 42 k42) 22 wc w.heap.size (fun k_ => some k_ ≠ (u260001 : Value).ownBlock ∧ k_ ≠ gb262) (.slice (some ad260) t256.length co16) t256) := ⟨by rw [← hq_]; exact (zS HO_260002)⟩; replace BK250 : Aside0 (wc.heap[gb250]? = some (.cells #[.int .i64 a0_0, .slice A0_1 l0_1.length c0_1] 24 (0, 0))) := ⟨by rw [← hq_]; exact (zK BK250)⟩; replace BK251 : Aside0 (wc.heap[gb251]? = some (.cells #[.slice none 0 0, .slice none 0 0, .slice none 0 0] 28 (0, 0))) := ⟨by rw [← hq_]; exact (zK BK251)⟩; replace BK259 : Aside0 (wc.heap[gb259]? = some (.cells #[.slice Ao17 t253.length co17, u260001, .slice (some ad260) t256.length co16] 28 (0, 0))) := ⟨by rw [← hq_]; exact (zK BK259)⟩; replace BK262 : Aside0 (wc.heap[gb262]? = some (.cells #[.int .i64 ((rd_T42 (rd_L2 t256 x25_1) 0).f0), .int .i64 ((rd_T42 (rd_L2 t256 x25_1) 0).f1)] 42 (0, 0))) := ⟨by rw [← hq_]; exact (zK BK262)⟩; replace HB : Aside0 (Below w.heap.size w wc) := ⟨by rw [← hq_]; exact (zB HB)⟩; replace HR260_0 : Aside0 (Kd.C k42 wc (some ad261) (rd_L2 t256 x25_1).length (rd_L2 t256 x25_1)) := ⟨by rw [← hq_]; exact (zC HR260_0)⟩; clear hq_)); have p270 : 0 ≤ (0 : Int) := (by omega); have q270 : 0 < (l1.length : Int) := of_decide_eq_true (by first | (with_reducible assumption) | assumption); obtain ⟨ad270, e270, hx270_0⟩ := Kd.at_int HR1.out 0 p270 q270; cases e270; have qi270 : (0 < l1.length) = True := eq_true (by omega); (try rw [show ((0 : Int)).toNat = 0 from rfl] at hx270_0); (try rw [Addr.add_zero'] at hx270_0); replace hx270_0 := (HB.out.cell (World.block_lt_of_cell? w _ hx270_0)).trans hx270_0; replace p270 := eq_true p270; replace q270 := eq_true q270; have hcz67_0 := zc BK262 0; have hcz67_1 := zc BK262 1; have hfz67_0 := blk_frozen BK262.out 0; have hfz67_1 := blk_frozen BK262.out 1; have hnb68 := NB259_250.out; have hnc68 := NB250_259.out; have hnb69 := NB259_251.out; have hnc69 := NB251_259.out; have hcz70_0 := zc BK259 0; have hcz70_1 := zc BK259 1; have hcz70_2 := zc BK259 2; have hfz70_0 := blk_frozen BK259.out 0; have hfz70_1 := blk_frozen BK259.out 1; have hfz70_2 := blk_frozen BK259.out 2) | ((with_reducible refine gate_builtin (b := .append) (xs := #[.tmp 58, .tmp 60]) rfl ?_); at_builtin; refine Kd.R_append k42 (w0 := w) w.heap.size rfl (.tmp 58) (.tmp 60) 22 42 (.agg #[(.int .i64 0), (.int .i64 0)]) 16 rfl Tryd.underlying22 info42 rfl (by decide) (by omega) u260001 x260001_1 (⟨rd l1 0, ((rd_T42 (rd_L2 t256 x25_1) 0).f1)⟩ : S42) [.int .i64 (rd l1 0), .int .i64 ((rd_T42 (rd_L2 t256 x25_1) 0).f1)] (fun k_ => k_ ≠ gb262) (fun _ => False) rfl (by first | (go_simp; done) | (go_simp; rfl)) ?aP (fun _ hk => hk.elim) ?aF ?aO ?aB ?aS ?aL ?_; (case aP => exact k42_mkM _ _ _ (⟨rd l1 0, ((rd_T42 (rd_L2 t256 x25_1) 0).f1)⟩ : S42)); (case aB => exact (zB HB)); (case aF => exact (fun k_ hk => Kd.freshB (g := gb262) (o := .cells #[.int .i64 (rd l1 0), .int .i64 ((rd_T42 (rd_L2 t256 x25_1) 0).f1)] 42 (0, 0)) (by refine zk ?_; refine blk_put (cs := #[.int .i64 (rd l1 0), .int .i64 ((rd_T42 (rd_L2 t256 x25_1) 0).f1)]) ?_ 1 _ rfl; refine zk ?_; refine blk_put (cs := #[.int .i64 ((rd_T42 (rd_L2 t256 x25_1) 0).f0), .int .i64 ((rd_T42 (rd_L2 t256 x25_1) 0).f1)]) ?_ 0 _ rfl; refine zk ?_; exact BK262.out) k_ hk)); (case aO => exact (by refine zkR ?_; exact Kd.R_mono (Kd.R_far (p := ⟨gb262, 1, none⟩) (Kd.R_far (p := ⟨gb262, 0, none⟩) (Kd.R_mono HO_260001.out (fun k_ hk => (⟨hk, hk⟩ : _ ∧ k_ ≠ gb262))) (fun _ hk => hk.2) (.int .i64 (rd l1 0))) (fun _ hk => hk.2) (.int .i64 ((rd_T42 (rd_L2 t256 x25_1) 0).f1))) (fun _ hk => hk.1))); (case aS => exact (below_size (zB HB))); (case aL => have := LMc62.out; omega); intro v272 w71 ho hb hg hat; rw [← Ny271.out] at ho; have HO273 := Aside0.mk (ho); replace HO_23 := Aside0.mk (Kd.S_after (ok := (fun k_ => k_ ≠ gb262)) (by refine zkS ?_; exact Kd.S_mono (Kd.S_far (p := ⟨gb262, 1, none⟩) (Kd.S_far (p := ⟨gb262, 0, none⟩) (Kd.S_mono HO_23.out (fun k_ hk => (⟨hk, hk.2⟩ : _ ∧ k_ ≠ gb262))) (fun _ hk => hk.2) (.int .i64 (rd l1 0))) (fun _ hk => hk.2) (.int .i64 ((rd_T42 (rd_L2 t256 x25_1) 0).f1))) (fun _ hk => ⟨hk.1.2, hk.1.1⟩)) hg hat); replace HO_260000 := Aside0.mk (Kd.R_over' (by refine zkR ?_; exact (Kd.R_mono (Kd.R_far (p := ⟨gb262, 1, none⟩) (Kd.R_far (p := ⟨gb262, 0, none⟩) (Kd.R_types HO_260000.out BK262.out (by decide)) (fun _ hk => hk.2) (.int .i64 (rd l1 0))) (fun _ hk => hk.2) (.int .i64 ((rd_T42 (rd_L2 t256 x25_1) 0).f1))) (fun _ h_ => h_.1))) (Kd.R_typed (by refine zkR ?_; exact (Kd.R_mono (Kd.R_far (p := ⟨gb262, 1, none⟩) (Kd.R_far (p := ⟨gb262, 0, none⟩) (Kd.R_mono HO_260001.out (fun k_ hk => (⟨hk, hk⟩ : _ ∧ k_ ≠ gb262))) (fun _ hk => hk.2) (.int .i64 (rd l1 0))) (fun _ hk => hk.2) (.int .i64 ((rd_T42 (rd_L2 t256 x25_1) 0).f1))) (fun _ h_ => h_.1)))) (by decide) hg); replace HO_260002 := Aside0.mk (Kd.S_after (ok := (fun k_ => k_ ≠ gb262)) (by refine zkS ?_; exact Kd.S_mono (Kd.S_far (p := ⟨gb262, 1, none⟩) (Kd.S_far (p := ⟨gb262, 0, none⟩) (Kd.S_mono HO_260002.out (fun k_ hk => (⟨hk, hk.2⟩ : _ ∧ k_ ≠ gb262))) (fun _ hk => hk.2) (.int .i64 (rd l1 0))) (fun _ hk => hk.2) (.int .i64 ((rd_T42 (rd_L2 t256 x25_1) 0).f1))) (fun _ hk => ⟨hk.1.2, hk.1.1⟩)) hg hat); replace BK250 := Aside0.mk (blk_grown (g := gb250) (o := .cells #[.int .i64 a0_0, .slice A0_1 l0_1.length c0_1] 24 (0, 0)) (by refine zk ?_; refine blk_far ?_ NB250_262.out _; refine zk ?_; refine blk_far ?_ NB250_262.out _; refine zk ?_; exact BK250.out) hg (Kd.R_ne HO_260001.out BK250.out (by decide))); replace BK251 := Aside0.mk (blk_grown (g := gb251) (o := .cells #[.slice none 0 0, .slice none 0 0, .slice none 0 0] 28 (0, 0)) (by refine zk ?_; refine blk_far ?_ NB251_262.out _; refine zk ?_; refine blk_far ?_ NB251_262.out _; refine zk ?_; exact BK251.out) hg (Kd.R_ne HO_260001.out BK251.out (by decide))); replace BK259 := Aside0.mk (blk_grown (g := gb259) (o := .cells #[.slice Ao17 t253.length co17, u260001, .slice (some ad260) t256.length co16] 28 (0, 0)) (by refine zk ?_; refine blk_far ?_ NB259_262.out _; refine zk ?_; refine blk_far ?_ NB259_262.out _; refine zk ?_; exact BK259.out) hg (Kd.R_ne HO_260001.out BK259.out (by decide))); replace BK262 := Aside0.mk (blk_grown (g := gb262) (o := .cells #[.int .i64 (rd l1 0), .int .i64 ((rd_T42 (rd_L2 t256 x25_1) 0).f1)] 42 (0, 0)) (by refine zk ?_; refine blk_put (cs := #[.int .i64 (rd l1 0), .int .i64 ((rd_T42 (rd_L2 t256 x25_1) 0).f1)]) ?_ 1 _ rfl; refine zk ?_; refine blk_put (cs := #[.int .i64 ((rd_T42 (rd_L2 t256 x25_1) 0).f0), .int .i64 ((rd_T42 (rd_L2 t256 x25_1) 0).f1)]) ?_ 0 _ rfl; refine zk ?_; exact BK262.out) hg (Kd.R_away HO_260001.out (fun _ hk => hk))); replace HB := Aside0.mk (hb); clear HO_260001; clear ho hb hg hat; obtain ⟨Ao72, co72, eo72⟩ := Kd.R_slice HO273.out; subst eo72; have hcz73_0 := zc BK259 0; have hcz73_1 := zc BK259 1; have hcz73_2 := zc BK259 2; have hfz73_0 := blk_frozen BK259.out 0; have hfz73_1 := blk_frozen BK259.out 1; have hfz73_2 := blk_frozen BK259.out 2)); go_roundg kj27
                     case measure => have := HK1.out; have := HJ27.out; omega
                     case rel => exact ⟨(wrap64 (x25_1 + 1)), (y271), (.slice Ao72 y271.length co72), zv, H', ⟨by have := HK1.out; have := HJ27.out; omega⟩, ⟨by refine zkS ?_; exact Kd.S_mono (Kd.S_far (p := ⟨gb259, 1, none⟩) (Kd.S_types HO_23.out BK259.out (by decide)) (fun _ hk => hk.2) (.slice Ao72 y271.length co72)) (fun _ hk => hk.1.2)⟩, ⟨by refine zkR ?_; exact Kd.R_mono (Kd.R_far (p := ⟨gb259, 1, none⟩) (Kd.R_types HO_260000.out BK259.out (by decide)) (fun _ hk => hk.2) (.slice Ao72 y271.length co72)) (fun _ hk => trivial)⟩, ⟨by refine zkR ?_; exact Kd.R_mono (Kd.R_far (p := ⟨gb259, 1, none⟩) (Kd.R_types HO273.out BK259.out (by decide)) (fun _ hk => hk.2) (.slice Ao72 y271.length co72)) (fun _ hk => trivial)⟩, ⟨by refine zkS ?_; exact Kd.S_mono (Kd.S_far (p := ⟨gb259, 1, none⟩) (Kd.S_types HO_260002.out BK259.out (by decide)) (fun _ hk => hk.2) (.slice Ao72 y271.length co72)) (fun _ hk => hk.1.2)⟩, ⟨by refine zk ?_; refine blk_far ?_ NB250_259.out _; refine zk ?_; exact BK250.out⟩, ⟨by refine zk ?_; refine blk_far ?_ NB251_259.out _; refine zk ?_; exact BK251.out⟩, ⟨by refine zk ?_; refine blk_put (cs := #[.slice Ao17 t253.length co17, u260001, .slice (some ad260) t256.length co16]) ?_ 1 _ rfl; refine zk ?_; exact BK259.out⟩, ⟨zB HB⟩⟩
                   · rw [if_neg c62] at H; exact absurd H (by simp)
                 · rw [if_neg c61] at H; exact absurd H (by simp)
             · replace c45 := Bool.eq_false_iff.mpr c45; subst c45; have H1 : (if x260001_1.length < 8796093022208 then (enforce_strict.l0 kj27 l1 t252 t256 (t256.length : Int) (wrap64 (x25_1 + 1)) t253 (x260001_1 ++ [(⟨((rd_T42 (rd_L2 t256 x25_1) 0).f0), ((rd_T42 (rd_L2 t256 x25_1) 0).f1)⟩ : S42)]) t256) else (none)) = some (r1, r2, r3) := by rw [if_neg (show ¬ (false = true) by decide)] at H; exact H
               clear H; have H := H1; clear H1; by_cases c74 : x260001_1.length < 8796093022208
               · rw [if_pos c74] at H; have LMc74 := Aside0.mk c74; clear c74; obtain ⟨y274, hy274⟩ : ∃ y_ : List (S42), y_ = (x260001_1 ++ [(⟨((rd_T42 (rd_L2 t256 x25_1) 0).f0), ((rd_T42 (rd_L2 t256 x25_1) 0).f1)⟩ : S42)]) := ⟨_, rfl⟩; replace H : (enforce_strict.l0 kj27 l1 t252 t256 (t256.length : Int) (wrap64 (x25_1 + 1)) t253 y274 t256) = some (r1, r2, r3) := by first | (rw [hy274]; with_reducible exact H) | (have H2_ := (Option.bind_some _ _).symm.trans H; rw [hy274]; with_reducible exact H2_) | (have H2_ := (Option.bind_some _ _).symm.trans H; with_reducible exact H2_) | with_reducible exact H | (rw [hy274]; exact H) | exact H
                 have Ny274 := Aside0.mk hy274; clear hy274; have H' := Aside0.mk H; clear H; have hnb75 := NB259_250.out; have hnc75 := NB250_259.out; have hnb76 := NB259_251.out; have hnc76 := NB251_259.out; have hnb77 := NB259_262.out; have hnc77 := NB262_259.out; have hcz78_0 := zc BK259 0; have hcz78_1 := zc BK259 1; have hcz78_2 := zc BK259 2; have hfz78_0 := blk_frozen BK259.out 0; have hfz78_1 := blk_frozen BK259.out 1; have hfz78_2 := blk_frozen BK259.out 2; have hnb79 := NB262_250.out; have hnc79 := NB250_262.out; have hnb80 := NB262_251.out; have hnc80 := NB251_262.out; have hcz81_0 := zc BK262 0; have hcz81_1 := zc BK262 1; have hfz81_0 := blk_frozen BK262.out 0; have hfz81_1 := blk_frozen BK262.out 1; go_wp2_with (first | ((with_reducible refine gate_builtin (b := .append) (xs := #[.tmp 58, .tmp 60]) rfl ?_); at_builtin; refine Kd.R_append k42 (w0 := w) w.heap.size rfl (.tmp 58) (.tmp 60) 22 42 (.agg #[(.int .i64 0), (.int .i64 0)]) 16 rfl Tryd.underlying22 info42 rfl (by decide) (by omega) u260001 x260001_1 (⟨((rd_T42 (rd_L2 t256 x25_1) 0).f0), ((rd_T42 (rd_L2 t256 x25_1) 0).f1)⟩ : S42) [.int .i64 ((rd_T42 (rd_L2 t256 x25_1) 0).f0), .int .i64 ((rd_T42 (rd_L2 t256 x25_1) 0).f1)] (fun k_ => k_ ≠ gb262) (fun _ => False) rfl rfl ?aP (fun _ hk => hk.elim) ?aF ?aO ?aB ?aS ?aL ?_; (case aP => exact k42_mkM _ _ _ (⟨((rd_T42 (rd_L2 t256 x25_1) 0).f0), ((rd_T42 (rd_L2 t256 x25_1) 0).f1)⟩ : S42)); (case aB => exact (zB HB)); (case aF => exact (fun k_ hk => Kd.freshB (g := gb262) (o := .cells #[.int .i64 ((rd_T42 (rd_L2 t256 x25_1) 0).f0), .int .i64 ((rd_T42 (rd_L2 t256 x25_1) 0).f1)] 42 (0, 0)) (zK BK262) k_ hk)); (case aO => exact (zR HO_260001)); (case aS => exact (below_size (zB HB))); (case aL => have := LMc74.out; omega); intro v275 w82 ho hb hg hat; rw [← Ny274.out] at ho; have HO276 := Aside0.mk (ho); replace HO_23 := Aside0.mk (Kd.S_after (ok := (fun k_ => k_ ≠ gb262)) (by refine zkS ?_; exact Kd.S_mono HO_23.out (fun _ hk => ⟨hk.2, hk.1⟩)) hg hat); replace HO_260000 := Aside0.mk (Kd.R_over' (zR HO_260000) (Kd.R_typed (zR HO_260001)) (by decide) hg); replace HO_260002 := Aside0.mk (Kd.S_after (ok := (fun k_ => k_ ≠ gb262)) (by refine zkS ?_; exact Kd.S_mono HO_260002.out (fun _ hk => ⟨hk.2, hk.1⟩)) hg hat); replace BK250 := Aside0.mk (blk_grown (g := gb250) (o := .cells #[.int .i64 a0_0, .slice A0_1 l0_1.length c0_1] 24 (0, 0)) (zK BK250) hg (Kd.R_ne HO_260001.out BK250.out (by decide))); replace BK251 := Aside0.mk (blk_grown (g := gb251) (o := .cells #[.slice none 0 0, .slice none 0 0, .slice none 0 0] 28 (0, 0)) (zK BK251) hg (Kd.R_ne HO_260001.out BK251.out (by decide))); replace BK259 := Aside0.mk (blk_grown (g := gb259) (o := .cells #[.slice Ao17 t253.length co17, u260001, .slice (some ad260) t256.length co16] 28 (0, 0)) (zK BK259) hg (Kd.R_ne HO_260001.out BK259.out (by decide))); replace BK262 := Aside0.mk (blk_grown (g := gb262) (o := .cells #[.int .i64 ((rd_T42 (rd_L2 t256 x25_1) 0).f0), .int .i64 ((rd_T42 (rd_L2 t256 x25_1) 0).f1)] 42 (0, 0)) (zK BK262) hg (Kd.R_away HO_260001.out (fun _ hk => hk))); replace HB := Aside0.mk (hb); clear HO_260001; clear ho hb hg hat; obtain ⟨Ao83, co83, eo83⟩ := Kd.R_slice HO276.out; subst eo83; have hcz84_0 := zc BK259 0; have hcz84_1 := zc BK259 1; have hcz84_2 := zc BK259 2; have hfz84_0 := blk_frozen BK259.out 0; have hfz84_1 := blk_frozen BK259.out 1; have hfz84_2 := blk_frozen BK259.out 2)); go_roundg kj27
                 case measure => have := HK1.out; have := HJ27.out; omega
                 case rel => exact ⟨(wrap64 (x25_1 + 1)), (y274), (.slice Ao83 y274.length co83), zv, H', ⟨by have := HK1.out; have := HJ27.out; omega⟩, ⟨by refine zkS ?_; exact Kd.S_mono (Kd.S_far (p := ⟨gb259, 1, none⟩) (Kd.S_types HO_23.out BK259.out (by decide)) (fun _ hk => hk.2) (.slice Ao83 y274.length co83)) (fun _ hk => hk.1.2)⟩, ⟨by refine zkR ?_; exact Kd.R_mono (Kd.R_far (p := ⟨gb259, 1, none⟩) (Kd.R_types HO_260000.out BK259.out (by decide)) (fun _ hk => hk.2) (.slice Ao83 y274.length co83)) (fun _ hk => trivial)⟩, ⟨by refine zkR ?_; exact Kd.R_mono (Kd.R_far (p := ⟨gb259, 1, none⟩) (Kd.R_types HO276.out BK259.out (by decide)) (fun _ hk => hk.2) (.slice Ao83 y274.length co83)) (fun _ hk => trivial)⟩, ⟨by refine zkS ?_; exact Kd.S_mono (Kd.S_far (p := ⟨gb259, 1, none⟩) (Kd.S_types HO_260002.out BK259.out (by decide)) (fun _ hk => hk.2) (.slice Ao83 y274.length co83)) (fun _ hk => hk.1.2)⟩, ⟨by refine zk ?_; refine blk_far ?_ NB250_259.out _; refine zk ?_; exact BK250.out⟩, ⟨by refine zk ?_; refine blk_far ?_ NB251_259.out _; refine zk ?_; exact BK251.out⟩, ⟨by refine zk ?_; refine blk_put (cs := #[.slice Ao17 t253.length co17, u260001, .slice (some ad260) t256.length co16]) ?_ 1 _ rfl; refine zk ?_; exact BK259.out⟩, ⟨zB HB⟩⟩
               · rw [if_neg c74] at H; exact absurd H (by simp)
         · rw [if_neg c27] at H; exact absurd H (by simp)
       · rw [if_neg c26] at H; exact absurd H (by simp)
     · rw [if_neg c25] at H; exact absurd H (by simp)
   · rw [if_neg c24] at H; have c24b0 : decide (x25_1 < (t256.length : Int)) = false := decide_eq_false c24; clear c24; simp only [Option.some.injEq, Prod.mk.injEq] at H; obtain ⟨rfl, rfl, rfl⟩ := H; have hnb85 := NB259_250.out; have hnc85 := NB250_259.out; have hnb86 := NB259_251.out; have hnc86 := NB251_259.out; have hcz87_0 := zc BK259 0; have hcz87_1 := zc BK259 1; have hcz87_2 := zc BK259 2; have hfz87_0 := blk_frozen BK259.out 0; have hfz87_1 := blk_frozen BK259.out 1; have hfz87_2 := blk_frozen BK259.out 2; have hnb88 := NB251_250.out; have hnc88 := NB250_251.out; have hcz89_0 := zc BK251 0; have hcz89_1 := zc BK251 1; have hcz89_2 := zc BK251 2; have hfz89_0 := blk_frozen BK251.out 0; have hfz89_1 := blk_frozen BK251.out 1; have hfz89_2 := blk_frozen BK251.out 2; obtain ⟨Ao90, co90, eo90⟩ := Kd.R_slice HO_260001.out; subst eo90; go_wp2; refine bodyPost_ret (results_cell_row rfl _ _ gb251 28 #[.slice Ao17 t253.length co17, .slice Ao90 x260001_1.length co90, .slice Ao16 t256.length co16] (0, 0) _ rfl (by refine zk ?_; refine blk_put (cs := #[.slice Ao17 t253.length co17, .slice Ao90 x260001_1.length co90, .slice none 0 0]) ?_ 2 _ rfl; refine zk ?_; refine blk_put (cs := #[.slice Ao17 t253.length co17, .slice none 0 0, .slice none 0 0]) ?_ 1 _ rfl; refine zk ?_; refine blk_put (cs := #[.slice none 0 0, .slice none 0 0, .slice none 0 0]) ?_ 0 _ rfl; refine zk ?_; exact BK251.out) Tryd.underlying28 rfl (by kernel_rfl)) rfl ?_; exact ⟨_, _, _, by first | rfl | (simp [errW_none, errW_some] <;> rfl) | (simp [*, errW_none, errW_some] <;> rfl), by refine zkR ?_; exact Kd.R_mono (Kd.R_far (p := ⟨gb251, 2, none⟩) (Kd.R_far (p := ⟨gb251, 1, none⟩) (Kd.R_far (p := ⟨gb251, 0, none⟩) (Kd.R_types HO_260000.out BK251.out (by decide)) (fun _ hk => hk.2) (.slice Ao17 t253.length co17)) (fun _ hk => hk.2) (.slice Ao90 x260001_1.length co90)) (fun _ hk => hk.2) (.slice Ao16 t256.length co16)) (fun _ hk => trivial), by refine zkR ?_; exact Kd.R_mono (Kd.R_far (p := ⟨gb251, 2, none⟩) (Kd.R_far (p := ⟨gb251, 1, none⟩) (Kd.R_far (p := ⟨gb251, 0, none⟩) (Kd.R_types HO_260001.out BK251.out (by decide)) (fun _ hk => hk.2) (.slice Ao17 t253.length co17)) (fun _ hk => hk.2) (.slice Ao90 x260001_1.length co90)) (fun _ hk => hk.2) (.slice Ao16 t256.length co16)) (fun _ hk => trivial), by refine zkS ?_; exact Kd.S_mono (Kd.S_far (p := ⟨gb251, 2, none⟩) (Kd.S_far (p := ⟨gb251, 1, none⟩) (Kd.S_far (p := ⟨gb251, 0, none⟩) (Kd.S_types HO_260002.out BK251.out (by decide)) (fun _ hk => hk.2) (.slice Ao17 t253.length co17)) (fun _ hk => hk.2) (.slice Ao90 x260001_1.length co90)) (fun _ hk => hk.2) (.slice Ao16 t256.length co16)) (fun _ hk => hk.1), zB HB⟩
end Go.Proofs.YtjmdlmogdbhdhaaDoor.P
namespace Go.Proofs.YtjmdlmogdbhdhaaDoor.P
open Go.RowKit Go.Proofs.YtjmdlmogdbhdhaaDoorW.PrintWords Go.Proofs.YtjmdlmogdbhdhaaDoorW.PrintLast Go.Proofs.YtjmdlmogdbhdhaaDoorW.PrintMore
attribute [local go_sem] max2_int min2_int max_two min_two max_three min_three max_four min_four
set_option linter.unusedVariables false
set_option linter.unusedSimpArgs false
def enforce_Strict.f (k : Nat) (a0_0 : Int) (l0_1 : List (S42)) (l1 : List Int) (a2 : Int) : Option (List Int × (List (S42)) × (List (List (S42))) × Int) := (enforce_arguments.f k a0_0 l0_1 l1 a2).bind fun t279 => (if t279 = 0 then ((enforce_hopeless.f a0_0 l0_1 l1 a2).bind fun t280 => (if t280 = true then (some (([] : List Int), ([] : List (S42)), ([] : List (List (S42))), 9)) else ((enforce_strict.f k a0_0 l0_1 l1 a2).bind fun bt281 => (some (bt281.1, bt281.2.1, bt281.2.2, 0))))) else (some (([] : List Int), ([] : List (S42)), ([] : List (List (S42))), t279)))
set_option maxHeartbeats 8000000 in
set_option maxRecDepth 100000 in
theorem enforce_Strict.calls (k : Nat) (a0_0 : Int) (A0_1 : Option Addr) (c0_1 : Nat) (l0_1 : List (S42)) (A1 : Option Addr) (c1 : Nat) (l1 : List Int) (a2 : Int) (r1 : List Int) (r2 : List (S42)) (r3 : List (List (S42))) (r4 : Int) (w : World) (hr0_1 : Kd.C k42 w A0_1 l0_1.length l0_1) (hc0_1 : l0_1.length ≤ c0_1) (hr1 : Kd.C (Kd.int .i64) w A1 l1.length l1) (hc1 : l1.length ≤ c1) (hT : TabT w) (h : enforce_Strict.f k a0_0 l0_1 l1 a2 = some (r1, r2, r3, r4)) :
 Calls Tryd.prog 24 #[.agg #[.int .i64 a0_0, .slice A0_1 l0_1.length c0_1], .slice A1 l1.length c1, .int .i64 a2] w fun e w' => ∃ v0_ v1_ v2_ : Value, e = .returned (.tuple #[.agg #[v0_, v1_, v2_], .int .i64 r4]) ∧ Kd.R (Kd.int .i64) 3 w' w.heap.size (fun _ => True) v0_ r1 ∧ Kd.R k42 42 w' w.heap.size (fun _ => True) v1_ r2 ∧ Kd.S (Kd.slice 42 k42) 22 w' w.heap.size (fun k_ => some k_ ≠ (v1_ : Value).ownBlock) v2_ r3 ∧ Below w.heap.size w w' := by
 have hu24 := Tryd.underlying24; have hu28 := Tryd.underlying28; have HR0_1 := Aside0.mk hr0_1; have HC0_1 := Aside0.mk hc0_1; clear hr0_1 hc0_1; have HR1 := Aside0.mk hr1; have HC1 := Aside0.mk hc1; clear hr1 hc1; have HTab := Aside0.mk hT; clear hT; have HB := Aside0.mk (Below.refl w.heap.size w); have H : ((enforce_arguments.f k a0_0 l0_1 l1 a2).bind fun t279 => (if t279 = 0 then ((enforce_hopeless.f a0_0 l0_1 l1 a2).bind fun t280 => (if t280 = true then (some (([] : List Int), ([] : List (S42)), ([] : List (List (S42))), 9)) else ((enforce_strict.f k a0_0 l0_1 l1 a2).bind fun bt281 => (some (bt281.1, bt281.2.1, bt281.2.2, 0))))) else (some (([] : List Int), ([] : List (S42)), ([] : List (List (S42))), t279)))) = some (r1, r2, r3, r4) := h; clear h; replace H := Option.bind_eq_some_iff.mp H; obtain ⟨t279, A40, H⟩ := H; replace H : (if t279 = 0 then ((enforce_hopeless.f a0_0 l0_1 l1 a2).bind fun t280 => (if t280 = true then (some (([] : List Int), ([] : List (S42)), ([] : List (List (S42))), 9)) else ((enforce_strict.f k a0_0 l0_1 l1 a2).bind fun bt281 => (some (bt281.1, bt281.2.1, bt281.2.2, 0))))) else (some (([] : List Int), ([] : List (S42)), ([] : List (List (S42))), t279))) = some (r1, r2, r3, r4) := H; have A4 := Aside0.mk A40; clear A40; by_cases c5 : t279 = 0
 · rw [if_pos c5] at H; have c5b0 : (t279 == 0) = true := beq_iff_eq.mpr c5; have c5b1 : (t279 != 0) = false := bne_eq_false_iff_eq.mpr c5; clear c5; replace H := Option.bind_eq_some_iff.mp H; obtain ⟨t280, A60, H⟩ := H; replace H : (if t280 = true then (some (([] : List Int), ([] : List (S42)), ([] : List (List (S42))), 9)) else ((enforce_strict.f k a0_0 l0_1 l1 a2).bind fun bt281 => (some (bt281.1, bt281.2.1, bt281.2.2, 0)))) = some (r1, r2, r3, r4) := H; have A6 := Aside0.mk A60; clear A60; by_cases c7 : t280 = true
   · subst c7; have H1 : (some (([] : List Int), ([] : List (S42)), ([] : List (List (S42))), 9)) = some (r1, r2, r3, r4) := by rw [if_pos rfl] at H; exact H
     clear H; have H := H1; clear H1; simp only [Option.some.injEq, Prod.mk.injEq] at H; obtain ⟨rfl, rfl, rfl, rfl⟩ := H; go_enter Tryd.func24, Tryd.ntmps24; go_wp2_with (first | ((with_reducible refine gate_dst (N := 3) rfl ?_); refine zX (N := 3) (cs := #[.int .i64 a0_0, .slice A0_1 l0_1.length c0_1]) (t := 24) ?_; intro gb277 hg w8 hbox hb; have BK277 := Aside0.mk (hbox); have GW277 := Aside0.mk (zW hg HB); have GE277 := Aside0.mk (zW hg HB); replace HB := Aside0.mk (below_step (zB HB) hb); clear hb hbox hg) | ((with_reducible refine gate_dst (N := 6) rfl ?_); refine zX (N := 6) (cs := #[.slice none 0 0, .slice none 0 0, .slice none 0 0]) (t := 28) ?_; intro gb278 hg w9 hbox hb; have BK278 := Aside0.mk (hbox); have GW278 := Aside0.mk (zW hg HB); have GE278 := Aside0.mk (zW hg HB); have NB277_278 := Aside0.mk (zNl hg BK277); have NB278_277 := Aside0.mk (zNr hg BK277); replace BK277 := Aside0.mk (zKb BK277 hb); replace HB := Aside0.mk (below_step (zB HB) hb); clear hb hbox hg; have hnb10 := NB277_278.out; have hnc10 := NB278_277.out; have hcz11_0 := zc BK277 0; have hcz11_1 := zc BK277 1; have hfz11_0 := blk_frozen BK277.out 0; have hfz11_1 := blk_frozen BK277.out 1) | ((with_reducible refine gate_callee (f := 37) rfl ?_); refine zG (some 12) rfl Tryd.func37 #[.agg #[.int .i64 a0_0, .slice A0_1 l0_1.length c0_1], .slice A1 l1.length c1, .int .i64 a2] ?_; (with_reducible refine (enforce_arguments.calls k a0_0 _ _ l0_1 _ _ l1 a2 t279 _ ?side1 ?side2 ?side3 ?side4 A4.out).mono ?_); (case side1 => exact zCb HR0_1 HB); (case side2 => exact HC0_1.out); (case side3 => exact zCb HR1 HB); (case side4 => exact HC1.out); rintro e w12 ⟨rfl, hb⟩; refine ⟨_, rfl, ?_⟩; replace BK277 := Aside0.mk (zKb BK277 hb); replace BK278 := Aside0.mk (zKb BK278 hb); replace HB := Aside0.mk (below_step (zB HB) hb); (try clear hb); (try clear hb2); (try clear hk); (try clear hi); have hcz13_0 := zc BK277 0; have hcz13_1 := zc BK277 1; have hfz13_0 := blk_frozen BK277.out 0; have hfz13_1 := blk_frozen BK277.out 1) | ((with_reducible refine gate_callee (f := 46) rfl ?_); refine zG (some 20) rfl Tryd.func46 #[.agg #[.int .i64 a0_0, .slice A0_1 l0_1.length c0_1], .slice A1 l1.length c1, .int .i64 a2] ?_; (with_reducible refine (enforce_hopeless.calls a0_0 _ _ l0_1 _ _ l1 a2 true _ ?side1 ?side2 ?side3 ?side4 A6.out).mono ?_); (case side1 => exact zCb HR0_1 HB); (case side2 => exact HC0_1.out); (case side3 => exact zCb HR1 HB); (case side4 => exact HC1.out); rintro e w14 ⟨rfl, hb⟩; refine ⟨_, rfl, ?_⟩; replace BK277 := Aside0.mk (zKb BK277 hb); replace BK278 := Aside0.mk (zKb BK278 hb); replace HB := Aside0.mk (below_step (zB HB) hb); (try clear hb); (try clear hb2); (try clear hk); (try clear hi); have hcz15_0 := zc BK278 0; have hcz15_1 := zc BK278 1; have hcz15_2 := zc BK278 2; have hfz15_0 := blk_frozen BK278.out 0; have hfz15_1 := blk_frozen BK278.out 1; have hfz15_2 := blk_frozen BK278.out 2)); refine bodyPost_ret (results_ct rfl _ _ gb278 28 #[.slice none 0 0, .slice none 0 0, .slice none 0 0] (0, 0) _ rfl (by refine zk ?_; refine blk_put (cs := #[.slice none 0 0, .slice none 0 0, .slice none 0 0]) ?_ 2 _ rfl; refine zk ?_; refine blk_put (cs := #[.slice none 0 0, .slice none 0 0, .slice none 0 0]) ?_ 1 _ rfl; refine zk ?_; refine blk_put (cs := #[.slice none 0 0, .slice none 0 0, .slice none 0 0]) ?_ 0 _ rfl; refine zk ?_; exact BK278.out) Tryd.underlying28 rfl (by kernel_rfl)) rfl ?_; exact ⟨_, _, _, by first | rfl | (simp [errW_none, errW_some] <;> rfl) | (simp [*, errW_none, errW_some] <;> rfl), by first | exact Kd.R_nil _ _ _ _ _ | exact Kd.N_nil _ _ _ _ _ | exact Kd.V_nil _ _ _ _ _ | exact Kd.Q_nil _ _ _ _ _ | exact Kd.S_nil _ _ _ _ _ | exact Kd.R_nil _ _ _ 0 _, by first | exact Kd.R_nil _ _ _ _ _ | exact Kd.N_nil _ _ _ _ _ | exact Kd.V_nil _ _ _ _ _ | exact Kd.Q_nil _ _ _ _ _ | exact Kd.S_nil _ _ _ _ _ | exact Kd.R_nil _ _ _ 0 _, by first | exact Kd.S_nil _ _ _ _ _ | exact Kd.N_nil _ _ _ _ _ | exact Kd.V_nil _ _ _ _ _ | exact Kd.Q_nil _ _ _ _ _ | exact Kd.R_nil _ _ _ _ _ | exact Kd.R_nil _ _ _ 0 _, zB HB⟩
   · replace c7 := Bool.eq_false_iff.mpr c7; subst c7; have H1 : ((enforce_strict.f k a0_0 l0_1 l1 a2).bind fun bt281 => (some (bt281.1, bt281.2.1, bt281.2.2, 0))) = some (r1, r2, r3, r4) := by rw [if_neg (show ¬ (false = true) by decide)] at H; exact H
     clear H; have H := H1; clear H1; replace H := Option.bind_eq_some_iff.mp H; obtain ⟨⟨t281, t284, t287⟩, A160, H⟩ := H; replace H : (some (t281, t284, t287, 0)) = some (r1, r2, r3, r4) := H; have A16 := Aside0.mk A160; clear A160; simp only [Option.some.injEq, Prod.mk.injEq] at H; obtain ⟨rfl, rfl, rfl, rfl⟩ := H; go_enter Tryd.func24, Tryd.ntmps24; go_wp2_with (first | ((with_reducible refine gate_dst (N := 3) rfl ?_); refine zX (N := 3) (cs := #[.int .i64 a0_0, .slice A0_1 l0_1.length c0_1]) (t := 24) ?_; intro gb277 hg w17 hbox hb; have BK277 := Aside0.mk (hbox); have GW277 := Aside0.mk (zW hg HB); have GE277 := Aside0.mk (zW hg HB); replace HB := Aside0.mk (below_step (zB HB) hb); clear hb hbox hg) | ((with_reducible refine gate_dst (N := 6) rfl ?_); refine zX (N := 6) (cs := #[.slice none 0 0, .slice none 0 0, .slice none 0 0]) (t := 28) ?_; intro gb278 hg w18 hbox hb; have BK278 := Aside0.mk (hbox); have GW278 := Aside0.mk (zW hg HB); have GE278 := Aside0.mk (zW hg HB); have NB277_278 := Aside0.mk (zNl hg BK277); have NB278_277 := Aside0.mk (zNr hg BK277); replace BK277 := Aside0.mk (zKb BK277 hb); replace HB := Aside0.mk (below_step (zB HB) hb); clear hb hbox hg; have hnb19 := NB277_278.out; have hnc19 := NB278_277.out; have hcz20_0 := zc BK277 0; have hcz20_1 := zc BK277 1; have hfz20_0 := blk_frozen BK277.out 0; have hfz20_1 := blk_frozen BK277.out 1) | ((with_reducible refine gate_callee (f := 37) rfl ?_); refine zG (some 12) rfl Tryd.func37 #[.agg #[.int .i64 a0_0, .slice A0_1 l0_1.length c0_1], .slice A1 l1.length c1, .int .i64 a2] ?_; (with_reducible refine (enforce_arguments.calls k a0_0 _ _ l0_1 _ _ l1 a2 t279 _ ?side1 ?side2 ?side3 ?side4 A4.out).mono ?_); (case side1 => exact zCb HR0_1 HB); (case side2 => exact HC0_1.out); (case side3 => exact zCb HR1 HB); (case side4 => exact HC1.out); rintro e w21 ⟨rfl, hb⟩; refine ⟨_, rfl, ?_⟩; replace BK277 := Aside0.mk (zKb BK277 hb); replace BK278 := Aside0.mk (zKb BK278 hb); replace HB := Aside0.mk (below_step (zB HB) hb); (try clear hb); (try clear hb2); (try clear hk); (try clear hi); have hcz22_0 := zc BK277 0; have hcz22_1 := zc BK277 1; have hfz22_0 := blk_frozen BK277.out 0; have hfz22_1 := blk_frozen BK277.out 1) | ((with_reducible refine gate_callee (f := 46) rfl ?_); refine zG (some 20) rfl Tryd.func46 #[.agg #[.int .i64 a0_0, .slice A0_1 l0_1.length c0_1], .slice A1 l1.length c1, .int .i64 a2] ?_; (with_reducible refine (enforce_hopeless.calls a0_0 _ _ l0_1 _ _ l1 a2 false _ ?side1 ?side2 ?side3 ?side4 A6.out).mono ?_); (case side1 => exact zCb HR0_1 HB); (case side2 => exact HC0_1.out); (case side3 => exact zCb HR1 HB); (case side4 => exact HC1.out); rintro e w23 ⟨rfl, hb⟩; refine ⟨_, rfl, ?_⟩; replace BK277 := Aside0.mk (zKb BK277 hb); replace BK278 := Aside0.mk (zKb BK278 hb); replace HB := Aside0.mk (below_step (zB HB) hb); (try clear hb); (try clear hb2); (try clear hk); (try clear hi); have hcz24_0 := zc BK277 0; have hcz24_1 := zc BK277 1; have hfz24_0 := blk_frozen BK277.out 0; have hfz24_1 := blk_frozen BK277.out 1) | ((with_reducible refine gate_callee (f := 47) rfl ?_); refine zG (some 25) rfl Tryd.func47 #[.agg #[.int .i64 a0_0, .slice A0_1 l0_1.length c0_1], .slice A1 l1.length c1, .int .i64 a2] ?_; (with_reducible refine (enforce_strict.calls k a0_0 _ _ l0_1 _ _ l1 a2 t281 t284 t287 _ ?side1 ?side2 ?side3 ?side4 ?side5 A16.out).mono ?_); (case side1 => exact zCb HR0_1 HB); (case side2 => exact HC0_1.out); (case side3 => exact zCb HR1 HB); (case side4 => exact HC1.out); (case side5 => exact TabT.now HTab.out (zB HB)); rintro e w25 ⟨v282, v285, v288, rfl, ho0, ho1, ho2, hb⟩; refine ⟨_, rfl, ?_⟩; have HO283 := Aside0.mk (Kd.R_lower ho0 (below_size (zB HB))); have HO286 := Aside0.mk (Kd.R_lower ho1 (below_size (zB HB))); have HO289 := Aside0.mk (Kd.S_lower ho2 (below_size (zB HB))); replace BK277 := Aside0.mk (zKb BK277 hb); replace BK278 := Aside0.mk (zKb BK278 hb); replace HB := Aside0.mk (below_step (zB HB) hb); (try clear hb); (try clear hb2); (try clear hk); (try clear hi); (try clear ho0); (try clear ho1); (try clear ho2); obtain ⟨Ao26, co26, eo26⟩ := Kd.R_slice HO283.out; subst eo26; have hcz27_0 := zc BK278 0; have hcz27_1 := zc BK278 1; have hcz27_2 := zc BK278 2; have hfz27_0 := blk_frozen BK278.out 0; have hfz27_1 := blk_frozen BK278.out 1; have hfz27_2 := blk_frozen BK278.out 2; obtain ⟨Ao28, co28, eo28⟩ := Kd.R_slice HO286.out; subst eo28; obtain ⟨Ao29, co29, eo29⟩ := Kd.S_slice HO289.out; subst eo29)); refine bodyPost_ret (results_ct rfl _ _ gb278 28 #[.slice Ao26 t281.length co26, .slice Ao28 t284.length co28, .slice Ao29 t287.length co29] (0, 0) _ rfl (by refine zk ?_; refine blk_put (cs := #[.slice Ao26 t281.length co26, .slice Ao28 t284.length co28, .slice none 0 0]) ?_ 2 _ rfl; refine zk ?_; refine blk_put (cs := #[.slice Ao26 t281.length co26, .slice none 0 0, .slice none 0 0]) ?_ 1 _ rfl; refine zk ?_; refine blk_put (cs := #[.slice none 0 0, .slice none 0 0, .slice none 0 0]) ?_ 0 _ rfl; refine zk ?_; exact BK278.out) Tryd.underlying28 rfl (by kernel_rfl)) rfl ?_; exact ⟨_, _, _, by first | rfl | (simp [errW_none, errW_some] <;> rfl) | (simp [*, errW_none, errW_some] <;> rfl), by refine zkR ?_; exact Kd.R_mono (Kd.R_far (p := ⟨gb278, 2, none⟩) (Kd.R_far (p := ⟨gb278, 1, none⟩) (Kd.R_far (p := ⟨gb278, 0, none⟩) (Kd.R_types HO283.out BK278.out (by decide)) (fun _ hk => hk.2) (.slice Ao26 t281.length co26)) (fun _ hk => hk.2) (.slice Ao28 t284.length co28)) (fun _ hk => hk.2) (.slice Ao29 t287.length co29)) (fun _ hk => trivial), by refine zkR ?_; exact Kd.R_mono (Kd.R_far (p := ⟨gb278, 2, none⟩) (Kd.R_far (p := ⟨gb278, 1, none⟩) (Kd.R_far (p := ⟨gb278, 0, none⟩) (Kd.R_types HO286.out BK278.out (by decide)) (fun _ hk => hk.2) (.slice Ao26 t281.length co26)) (fun _ hk => hk.2) (.slice Ao28 t284.length co28)) (fun _ hk => hk.2) (.slice Ao29 t287.length co29)) (fun _ hk => trivial), by refine zkS ?_; exact Kd.S_mono (Kd.S_far (p := ⟨gb278, 2, none⟩) (Kd.S_far (p := ⟨gb278, 1, none⟩) (Kd.S_far (p := ⟨gb278, 0, none⟩) (Kd.S_types HO289.out BK278.out (by decide)) (fun _ hk => hk.2) (.slice Ao26 t281.length co26)) (fun _ hk => hk.2) (.slice Ao28 t284.length co28)) (fun _ hk => hk.2) (.slice Ao29 t287.length co29)) (fun _ hk => hk.1), zB HB⟩
 · rw [if_neg c5] at H; have c5b0 : (t279 == 0) = false := beq_eq_false_iff_ne.mpr c5; have c5b1 : (t279 != 0) = true := bne_iff_ne.mpr c5; simp only [Option.some.injEq, Prod.mk.injEq] at H; obtain ⟨rfl, rfl, rfl, rfl⟩ := H; go_enter Tryd.func24, Tryd.ntmps24; go_wp2_with (first | ((with_reducible refine gate_dst (N := 3) rfl ?_); refine zX (N := 3) (cs := #[.int .i64 a0_0, .slice A0_1 l0_1.length c0_1]) (t := 24) ?_; intro gb277 hg w30 hbox hb; have BK277 := Aside0.mk (hbox); have GW277 := Aside0.mk (zW hg HB); have GE277 := Aside0.mk (zW hg HB); replace HB := Aside0.mk (below_step (zB HB) hb); clear hb hbox hg) | ((with_reducible refine gate_dst (N := 6) rfl ?_); refine zX (N := 6) (cs := #[.slice none 0 0, .slice none 0 0, .slice none 0 0]) (t := 28) ?_; intro gb278 hg w31 hbox hb; have BK278 := Aside0.mk (hbox); have GW278 := Aside0.mk (zW hg HB); have GE278 := Aside0.mk (zW hg HB); have NB277_278 := Aside0.mk (zNl hg BK277); have NB278_277 := Aside0.mk (zNr hg BK277); replace BK277 := Aside0.mk (zKb BK277 hb); replace HB := Aside0.mk (below_step (zB HB) hb); clear hb hbox hg; have hnb32 := NB277_278.out; have hnc32 := NB278_277.out; have hcz33_0 := zc BK277 0; have hcz33_1 := zc BK277 1; have hfz33_0 := blk_frozen BK277.out 0; have hfz33_1 := blk_frozen BK277.out 1) | ((with_reducible refine gate_callee (f := 37) rfl ?_); refine zG (some 12) rfl Tryd.func37 #[.agg #[.int .i64 a0_0, .slice A0_1 l0_1.length c0_1], .slice A1 l1.length c1, .int .i64 a2] ?_; (with_reducible refine (enforce_arguments.calls k a0_0 _ _ l0_1 _ _ l1 a2 t279 _ ?side1 ?side2 ?side3 ?side4 A4.out).mono ?_); (case side1 => exact zCb HR0_1 HB); (case side2 => exact HC0_1.out); (case side3 => exact zCb HR1 HB); (case side4 => exact HC1.out); rintro e w34 ⟨rfl, hb⟩; refine ⟨_, rfl, ?_⟩; replace BK277 := Aside0.mk (zKb BK277 hb); replace BK278 := Aside0.mk (zKb BK278 hb); replace HB := Aside0.mk (below_step (zB HB) hb); (try clear hb); (try clear hb2); (try clear hk); (try clear hi); have hcz35_0 := zc BK278 0; have hcz35_1 := zc BK278 1; have hcz35_2 := zc BK278 2; have hfz35_0 := blk_frozen BK278.out 0; have hfz35_1 := blk_frozen BK278.out 1; have hfz35_2 := blk_frozen BK278.out 2)); refine bodyPost_ret (results_ct rfl _ _ gb278 28 #[.slice none 0 0, .slice none 0 0, .slice none 0 0] (0, 0) _ rfl (by refine zk ?_; refine blk_put (cs := #[.slice none 0 0, .slice none 0 0, .slice none 0 0]) ?_ 2 _ rfl; refine zk ?_; refine blk_put (cs := #[.slice none 0 0, .slice none 0 0, .slice none 0 0]) ?_ 1 _ rfl; refine zk ?_; refine blk_put (cs := #[.slice none 0 0, .slice none 0 0, .slice none 0 0]) ?_ 0 _ rfl; refine zk ?_; exact BK278.out) Tryd.underlying28 rfl (by kernel_rfl)) rfl ?_; exact ⟨_, _, _, by first | rfl | (simp [errW_none, errW_some] <;> rfl) | (simp [*, errW_none, errW_some] <;> rfl), by first | exact Kd.R_nil _ _ _ _ _ | exact Kd.N_nil _ _ _ _ _ | exact Kd.V_nil _ _ _ _ _ | exact Kd.Q_nil _ _ _ _ _ | exact Kd.S_nil _ _ _ _ _ | exact Kd.R_nil _ _ _ 0 _, by first | exact Kd.R_nil _ _ _ _ _ | exact Kd.N_nil _ _ _ _ _ | exact Kd.V_nil _ _ _ _ _ | exact Kd.Q_nil _ _ _ _ _ | exact Kd.S_nil _ _ _ _ _ | exact Kd.R_nil _ _ _ 0 _, by first | exact Kd.S_nil _ _ _ _ _ | exact Kd.N_nil _ _ _ _ _ | exact Kd.V_nil _ _ _ _ _ | exact Kd.Q_nil _ _ _ _ _ | exact Kd.R_nil _ _ _ _ _ | exact Kd.R_nil _ _ _ 0 _, zB HB⟩
end Go.Proofs.YtjmdlmogdbhdhaaDoor.P
/- Plain facts: arguments, and the least change of a set itself. -/
namespace Go.Proofs.YtjmdlmogdbhdhaaDoor.P
open Go.RowKit Go.Proofs.YtjmdlmogdbhdhaaDoorW.PrintWords Go.Proofs.YtjmdlmogdbhdhaaDoorW.PrintLast Go.Proofs.YtjmdlmogdbhdhaaDoorW.PrintMore
theorem asc_l0 {N : Int} {s : List Int} (hs : SetL N s) (hl : s.length ≤ 1000) : ∀ (n i : Nat), n + i = s.length → Ev (fun k => network_Ascending.l0 k s N s (s.length : Int) (i : Int)) true
  | 0, i, hi => by
    refine Ev.succ ?_
    simp only [network_Ascending.l0]
    exact Ev.neg (by omega) (Ev.const _)
  | n + 1, i, hi => by
    have hlt : i < s.length := by omega
    have hr := hs.1 _ (List.getElem_mem hlt)
    have ih := asc_l0 hs hl n (i + 1) (by omega)
    refine Ev.succ ?_
    simp only [network_Ascending.l0, rd_get s i hlt, up1 i (by omega)]
    refine Ev.pos (by omega) (Ev.pos (by omega) (Ev.pos (by omega) (Ev.neg (by omega) (Ev.neg (by omega) ?_))))
    cases i with
    | zero => exact Ev.neg (by omega) ih
    | succ i =>
      have hi' : i < s.length := by omega
      have hw2 : wrap64 (((i + 1 : Nat) : Int) - 1) = (i : Int) := by rw [wrap_id _ (by omega) (by omega)]; omega
      have ho : s[i] < s[i + 1] := List.pairwise_iff_getElem.1 hs.2 i (i + 1) hi' hlt (by omega)
      simp only [hw2, rd_get s i hi']
      exact Ev.pos (by omega) (Ev.pos (by omega) (Ev.pos (by omega) (Ev.neg (by omega) ih)))
theorem args_ok {N : Int} {L : List S42} (hG : GoodG N L) {s : List Int} (hs : SetL N s) {kind : Int} (hk : kind = 1 ∨ kind = 2) : Ev (fun k => enforce_arguments.f k N L s kind) 0 := by
  have hl := hs.len hG.n0 hG.n1
  have ha : Ev (fun k => network_Ascending.f k s N) true := asc_l0 hs (by omega) s.length 0 (by omega)
  have hj : Ev (fun k => enforce_arguments.j0 k s false N L) 0 := by
    refine Ev.succ ?_
    simp only [enforce_arguments.j0]
    exact Ev.neg (by simp) (Ev.bind ha (Ev.pos rfl (Ev.const _)))
  simp only [enforce_arguments.f]
  refine Ev.bind (valid_ev hG) (Ev.pos rfl ?_)
  rcases hk with rfl | rfl
  · exact Ev.pos rfl hj
  · exact Ev.neg (by omega) hj
/-- The change for a duty. -/
def chg (s : List Int) (d : List S42) : S42 :=
  let p := rd_T42 d 0
  if inn s p.f0 && inn s p.f1 then p else ⟨rd s 0, if inn s p.f1 then p.f0 else p.f1⟩
theorem chg_in {s : List Int} {d : List S42} (h : (inn s (rd_T42 d 0).f0 && inn s (rd_T42 d 0).f1) = true) : chg s d = rd_T42 d 0 := by
  unfold chg
  exact if_pos h
theorem chg_out {s : List Int} {d : List S42} (h : (inn s (rd_T42 d 0).f0 && inn s (rd_T42 d 0).f1) = false) : chg s d = ⟨rd s 0, if inn s (rd_T42 d 0).f1 = true then (rd_T42 d 0).f0 else (rd_T42 d 0).f1⟩ := by
  unfold chg
  exact if_neg (by rw [h]; simp)
theorem strict_l0 {s : List Int} {u : Int} (hu : Rep u (inl s)) {ds : List (List S42)} (hlen : ds.length ≤ 100000) (hd : ∀ d ∈ ds, 0 < d.length ∧ 0 < s.length ∧ 0 ≤ (rd_T42 d 0).f0 ∧ (rd_T42 d 0).f0 < 64 ∧ 0 ≤ (rd_T42 d 0).f1 ∧ (rd_T42 d 0).f1 < 64) (cl : List Int) (r3 : List (List S42)) :
    ∀ (n i : Nat), n + i = ds.length → ∀ ch : List S42, ch.length ≤ i → Ev (fun k => enforce_strict.l0 k s u ds (ds.length : Int) (i : Int) cl ch r3) (cl, ch ++ (ds.drop i).map (chg s), r3)
  | 0, i, hi, ch, hc => by
    refine Ev.succ ?_
    simp only [enforce_strict.l0]
    refine Ev.neg (by omega) ?_
    rw [List.drop_eq_nil_of_le (by omega), List.map_nil, List.append_nil]
    exact Ev.const _
  | n + 1, i, hi, ch, hc => by
    have hlt : i < ds.length := by omega
    obtain ⟨h1, h2, h3, h4, h5, h6⟩ := hd _ (List.getElem_mem hlt)
    have hrd : rd_L2 ds (i : Int) = ds[i] := by simp [rd_L2, hlt]
    have ih := fun x => strict_l0 hu hlen hd cl r3 n (i + 1) (by omega) (ch ++ [x]) (by simp; omega)
    have hch : (ds.drop i).map (chg s) = chg s ds[i] :: (ds.drop (i + 1)).map (chg s) := by rw [List.drop_eq_getElem_cons hlt, List.map_cons]
    have fin : ∀ x, x = chg s ds[i] → Ev (fun k => enforce_strict.l0 k s u ds (ds.length : Int) ((i + 1 : Nat) : Int) cl (ch ++ [x]) r3) (cl, ch ++ (ds.drop i).map (chg s), r3) := by
      rintro x rfl
      have := ih (chg s ds[i])
      rw [List.append_assoc] at this
      rw [hch]
      exact this
    have hj : ∀ b, b = !(inn s (rd_T42 ds[i] 0).f0 && inn s (rd_T42 ds[i] 0).f1) → Ev (fun k => enforce_strict.j1 k s u ds (ds.length : Int) (i : Int) b cl ch r3 (rd_T42 ds[i] 0).f0 (rd_T42 ds[i] 0).f1) (cl, ch ++ (ds.drop i).map (chg s), r3) := by
      intro b hb
      refine Ev.succ ?_
      simp only [enforce_strict.j1, up1 i (by omega), rep_nat hu (rd_T42 ds[i] 0).f1 h5 h6, inl_nat s (rd_T42 ds[i] 0).f1 h5, Option.bind_some]
      cases b with
      | true =>
        have hno : (inn s (rd_T42 ds[i] 0).f0 && inn s (rd_T42 ds[i] 0).f1) = false := by rw [← Bool.not_eq_true']; exact hb.symm
        refine Ev.pos rfl ?_
        cases hf : inn s (rd_T42 ds[i] 0).f1 with
        | true => exact Ev.pos rfl (Ev.pos (by omega) (Ev.pos (by omega) (fin _ (by rw [chg_out hno, if_pos hf]))))
        | false => exact Ev.neg (by simp) (Ev.pos (by omega) (Ev.pos (by omega) (fin _ (by rw [chg_out hno, hf, if_neg (by simp)]))))
      | false =>
        have hyes : (inn s (rd_T42 ds[i] 0).f0 && inn s (rd_T42 ds[i] 0).f1) = true := by rw [← Bool.not_eq_false']; exact hb.symm
        exact Ev.neg (by simp) (Ev.pos (by omega) (fin _ (by rw [chg_in hyes])))
    refine Ev.succ ?_
    simp only [enforce_strict.l0, hrd, rep_nat hu (rd_T42 ds[i] 0).f0 h3 h4, rep_nat hu (rd_T42 ds[i] 0).f1 h5 h6, inl_nat s (rd_T42 ds[i] 0).f0 h3, inl_nat s (rd_T42 ds[i] 0).f1 h5, Option.bind_some]
    refine Ev.pos (by omega) (Ev.pos (by omega) (Ev.pos (by omega) (Ev.pos (by omega) ?_)))
    cases hf : inn s (rd_T42 ds[i] 0).f0 with
    | true => exact Ev.pos rfl (hj _ (by rw [hf, Bool.true_and]))
    | false => exact Ev.neg (by simp) (hj true (by rw [hf]; rfl))
end Go.Proofs.YtjmdlmogdbhdhaaDoor.P
