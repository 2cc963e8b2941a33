import Derived.Test.YtjmdlmogdbhdhaaDoorA2
namespace Go.Proofs.YtjmdlmogdbhdhaaDoor.P
open Go.RowKit Go.Proofs.YtjmdlmogdbhdhaaDoorW.PrintWords Go.Proofs.YtjmdlmogdbhdhaaDoorW.PrintLast Go.Proofs.YtjmdlmogdbhdhaaDoorW.PrintMore
attribute [local go_sem] max2_int min2_int max_two min_two max_three min_three max_four min_four   -- for this text's walks alone
set_option linter.unusedVariables false
set_option linter.unusedSimpArgs false
/-! ### network_New: function 49 -/
mutual
def network_New.l0 : Nat → Int → Int → Int → List (S42) → Int → List Int → List Int → Option (Int × List Int × List Int)
 | 0, _, _, _, _, _, _, _ => none
 | k + 1, x15, x16, x136000, x136001, x144000, x144001, x144002 => if x16 < x15 then ((network_Set_With.f x144000 x16).bind fun t144 => (network_New.l0 k x15 (wrap64 (x16 + 1)) x136000 x136001 t144 x144001 x144002)) else (network_New.l1 k x136001 (x136001.length : Int) 0 x144000 x144001 x144002)
def network_New.l1 : Nat → List (S42) → Int → Int → Int → List Int → List Int → Option (Int × List Int × List Int)
 | 0, _, _, _, _, _, _ => none
 | k + 1, x26, x27, x28, x144000, x144001, x144002 => if x28 < x27 then (if 0 ≤ x28 then (if x28 < (x26.length : Int) then (if 0 ≤ ((rd_T42 x26 x28).f1) then (if ((rd_T42 x26 x28).f1) < (x144001.length : Int) then ((network_Set_With.f (rd x144001 ((rd_T42 x26 x28).f1)) ((rd_T42 x26 x28).f0)).bind fun t148 => (if 0 ≤ ((rd_T42 x26 x28).f0) then (if ((rd_T42 x26 x28).f0) < (x144002.length : Int) then ((network_Set_With.f (rd x144002 ((rd_T42 x26 x28).f0)) ((rd_T42 x26 x28).f1)).bind fun t151 => (network_New.l1 k x26 x27 (wrap64 (x28 + 1)) x144000 (x144001.set (((rd_T42 x26 x28).f1) : Int).toNat t148) (x144002.set (((rd_T42 x26 x28).f0) : Int).toNat t151))) else (none)) else (none))) else (none)) else (none)) else (none)) else (none)) else (some (x144000, x144001, x144002))
end
def network_New.f (k : Nat) (a0_0 : Int) (l0_1 : List (S42)) : Option (Int × List Int × List Int) := if 0 ≤ a0_0 then (if (a0_0 : Int).toNat ≤ 35184372088832 then (network_New.l0 k a0_0 0 a0_0 l0_1 0 (List.replicate (a0_0 : Int).toNat 0) (List.replicate (a0_0 : Int).toNat 0)) else (none)) else (none)
theorem network_New.mono_l : ∀ k, (∀ y0 y1 y2 y3 y4 y5 y6, LeO (network_New.l0 k y0 y1 y2 y3 y4 y5 y6) (network_New.l0 (k + 1) y0 y1 y2 y3 y4 y5 y6)) ∧ (∀ y0 y1 y2 y3 y4 y5, LeO (network_New.l1 k y0 y1 y2 y3 y4 y5) (network_New.l1 (k + 1) y0 y1 y2 y3 y4 y5))
 | 0 => ⟨fun _ _ _ _ _ _ _ r h => by simp [network_New.l0] at h, fun _ _ _ _ _ _ r h => by simp [network_New.l1] at h⟩
 | k + 1 => by
  obtain ⟨ih0, ih1⟩ := network_New.mono_l k
  refine ⟨?_, ?_⟩
  · intro y0 y1 y2 y3 y4 y5 y6
    unfold network_New.l0
    repeat' first
    | (with_reducible exact ih0 _ _ _ _ _ _ _)
    | (with_reducible exact ih1 _ _ _ _ _ _)
    | (with_reducible exact LeO.refl _)
    | (with_reducible exact LeO.none _)
    | (with_reducible refine LeO.ite ?_ ?_)
    | (with_reducible refine LeO.bind ?_ (fun _ => ?_))
    | exact ih0 _ _ _ _ _ _ _
    | exact ih1 _ _ _ _ _ _
    | exact LeO.none _
    | refine LeO.ite ?_ ?_
    | refine LeO.bind ?_ (fun _ => ?_)
  · intro y0 y1 y2 y3 y4 y5
    unfold network_New.l1
    repeat' first
    | (with_reducible exact ih0 _ _ _ _ _ _ _)
    | (with_reducible exact ih1 _ _ _ _ _ _)
    | (with_reducible exact LeO.refl _)
    | (with_reducible exact LeO.none _)
    | (with_reducible refine LeO.ite ?_ ?_)
    | (with_reducible refine LeO.bind ?_ (fun _ => ?_))
    | exact ih0 _ _ _ _ _ _ _
    | exact ih1 _ _ _ _ _ _
    | exact LeO.none _
    | refine LeO.ite ?_ ?_
    | refine LeO.bind ?_ (fun _ => ?_)
theorem network_New.mono : ∀ a0 a1 k, LeO (network_New.f k a0 a1) (network_New.f (k + 1) a0 a1) := by
 intro a0 a1 k
 obtain ⟨ih0, ih1⟩ := network_New.mono_l k
 unfold network_New.f
 repeat' first
  | (with_reducible exact ih0 _ _ _ _ _ _ _)
  | (with_reducible exact ih1 _ _ _ _ _ _)
  | (with_reducible exact LeO.refl _)
  | (with_reducible exact LeO.none _)
  | (with_reducible refine LeO.ite ?_ ?_)
  | (with_reducible refine LeO.bind ?_ (fun _ => ?_))
  | exact ih0 _ _ _ _ _ _ _
  | exact ih1 _ _ _ _ _ _
  | exact LeO.none _
  | refine LeO.ite ?_ ?_
  | refine LeO.bind ?_ (fun _ => ?_)
def network_New.T1 : Bool × List (List Nat × List Nat) := (true, [([], []), ([0], [0]), ([1, 1], [1]), ([], []), ([3], [3]), ([4, 4], [4]), ([2, 5], [2, 5]), ([], []), ([7, 6, 0, 1, 2, 3, 4, 5, 6, 7], [6, 7])])
def network_New.B1 : List Nat := [0, 1, 3, 0, 8, 24, 63, 0, 255]
theorem network_New.tab1 : rtab .any (opsOf Tryd.f49 1) = network_New.T1 := by kernel_rfl
theorem network_New.bits1 : waitsOk network_New.T1.2 network_New.B1 = true := by kernel_rfl
def network_New.T10 : Bool × List (List Nat × List Nat) := (true, [([], []), ([0], [0]), ([], []), ([2], [2]), ([], []), ([4], [4]), ([], []), ([6], [6]), ([5, 7], [5, 7]), ([8], [8]), ([], []), ([10], [10]), ([9, 11], [9, 11]), ([1, 3, 0, 1, 2, 3, 4, 5, 6, 7, 8, 9, 10, 11, 12], [1, 3]), ([13, 12, 12, 0, 1, 2, 3, 4, 5, 6, 7, 8, 9, 10, 11, 12], [12, 13])])
def network_New.B10 : List Nat := [0, 1, 0, 4, 0, 16, 0, 64, 240, 496, 0, 1024, 4080, 8191, 16383]
theorem network_New.tab10 : rtab .any (opsOf Tryd.f49 10) = network_New.T10 := by kernel_rfl
theorem network_New.bits10 : waitsOk network_New.T10.2 network_New.B10 = true := by kernel_rfl
def network_New.T11 : Bool × List (List Nat × List Nat) := (true, [([], []), ([0], [0]), ([], []), ([2], [2]), ([], []), ([4], [4]), ([], []), ([6], [6]), ([5, 7], [5, 7]), ([8], [8]), ([], []), ([10], [10]), ([9, 11], [9, 11]), ([1, 3, 0, 1, 2, 3, 4, 5, 6, 7, 8, 9, 10, 11, 12], [1, 3]), ([13, 12, 12, 0, 1, 2, 3, 4, 5, 6, 7, 8, 9, 10, 11, 12], [12, 13])])
def network_New.B11 : List Nat := [0, 1, 0, 4, 0, 16, 0, 64, 240, 496, 0, 1024, 4080, 8191, 16383]
theorem network_New.tab11 : rtab .any (opsOf Tryd.f49 11) = network_New.T11 := by kernel_rfl
theorem network_New.bits11 : waitsOk network_New.T11.2 network_New.B11 = true := by kernel_rfl
set_option maxHeartbeats 8000000 in
set_option maxRecDepth 100000 in
theorem network_New.calls (k : Nat) (a0_0 : Int) (A0_1 : Option Addr) (c0_1 : Nat) (l0_1 : List (S42)) (r1 : Int) (r2 : List Int) (r3 : List Int) (w : World) (hr0_1 : Kd.C k42 w A0_1 l0_1.length l0_1) (hc0_1 : l0_1.length ≤ c0_1) (h : network_New.f k a0_0 l0_1 = some (r1, r2, r3)) :
 Calls Tryd.prog 49 #[.agg #[.int .i64 a0_0, .slice A0_1 l0_1.length c0_1]] w fun e w' => ∃ v1_ v2_ : Value, e = .returned (.agg #[.int .u64 r1, v1_, v2_]) ∧ Kd.R (Kd.int .u64) 76 w' w.heap.size (fun k_ => some k_ ≠ (v2_ : Value).ownBlock) v1_ r2 ∧ Kd.R (Kd.int .u64) 76 w' w.heap.size (fun k_ => some k_ ≠ (v1_ : Value).ownBlock) v2_ r3 ∧ Below w.heap.size w w' := by
 have hu24 := Tryd.underlying24
 have hu80 := Tryd.underlying80
 have hu42 := Tryd.underlying42
 have HR0_1 := Aside0.mk hr0_1
 have HC0_1 := Aside0.mk hc0_1
 clear hr0_1 hc0_1
 have HB := Aside0.mk (Below.refl w.heap.size w)
 have H : (if 0 ≤ a0_0 then (if (a0_0 : Int).toNat ≤ 35184372088832 then (network_New.l0 k a0_0 0 a0_0 l0_1 0 (List.replicate (a0_0 : Int).toNat 0) (List.replicate (a0_0 : Int).toNat 0)) else (none)) else (none)) = some (r1, r2, r3) := h
 clear h
 by_cases c2 : 0 ≤ a0_0
 · rw [if_pos c2] at H
   have c2b0 := eq_true c2
   have c2b1 : decide (0 ≤ a0_0) = true := decide_eq_true c2
   clear c2
   by_cases c3 : (a0_0 : Int).toNat ≤ 35184372088832
   · rw [if_pos c3] at H
     have c3b0 := eq_true c3
     have c3b1 : decide ((a0_0 : Int).toNat ≤ 35184372088832) = true := decide_eq_true c3
     clear c3
     obtain ⟨y137, hy137⟩ : ∃ y_ : List Int, y_ = (List.replicate (a0_0 : Int).toNat 0) := ⟨_, rfl⟩
     replace H : (network_New.l0 k a0_0 0 a0_0 l0_1 0 y137 (List.replicate (a0_0 : Int).toNat 0)) = some (r1, r2, r3) := by first | (rw [hy137]; with_reducible exact H) | (have H2_ := (Option.bind_some _ _).symm.trans H; rw [hy137]; with_reducible exact H2_) | (have H2_ := (Option.bind_some _ _).symm.trans H; with_reducible exact H2_) | with_reducible exact H | (rw [hy137]; exact H) | exact H
     have Ny137 := Aside0.mk hy137
     clear hy137
     obtain ⟨y140, hy140⟩ : ∃ y_ : List Int, y_ = (List.replicate (a0_0 : Int).toNat 0) := ⟨_, rfl⟩
     replace H : (network_New.l0 k a0_0 0 a0_0 l0_1 0 y137 y140) = some (r1, r2, r3) := by first | (rw [hy140]; with_reducible exact H) | (have H2_ := (Option.bind_some _ _).symm.trans H; rw [hy140]; with_reducible exact H2_) | (have H2_ := (Option.bind_some _ _).symm.trans H; with_reducible exact H2_) | with_reducible exact H | (rw [hy140]; exact H) | exact H
     have Ny140 := Aside0.mk hy140
     clear hy140
     have H' := Aside0.mk H
     clear H
     go_enter Tryd.func49, Tryd.ntmps49
     try go_wp2_with (first | ((with_reducible refine gate_dst (N := 1) rfl ?_); refine box_event ?hg (N := 1) ?hd (cs := #[.int .i64 a0_0, .slice A0_1 l0_1.length c0_1]) (t := 24) ?hr ?_; (case hd => rfl); (case hg => rfl); (case hr => first | (go_simp; done) | (go_simp; rfl)); intro gb135 hg w4 hbox hb; have n0_ := Aside0.mk (below_step (zB HB) hb); have n1_ := Aside0.mk (hbox); have n2_ := Aside0.mk ((by rw [hg]; exact (below_size (zB HB)) : w.heap.size ≤ gb135)); have n3_ := Aside0.mk ((by rw [hg]; exact (below_size (zB HB)) : w.heap.size ≤ gb135)); clear HB; have HB := n0_; have BK135 := n1_; have GW135 := n2_; have GE135 := n3_; clear n0_ n1_ n2_ n3_; clear hb hbox hg) | ((with_reducible refine gate_dst (N := 2) rfl ?_); refine box_event ?hg (N := 2) ?hd (cs := #[.int .u64 0, .slice none 0 0, .slice none 0 0]) (t := 80) ?hr ?_; (case hd => rfl); (case hg => rfl); (case hr => first | (go_simp; done) | (go_simp; rfl)); intro gb136 hg w5 hbox hb; have n0_ := Aside0.mk (blk_below (g := gb135) (o := .cells #[.int .i64 a0_0, .slice A0_1 l0_1.length c0_1] 24 (0, 0)) (zK BK135) hb); have n1_ := Aside0.mk (below_step (zB HB) hb); have n2_ := Aside0.mk (hbox); have n3_ := Aside0.mk ((by rw [hg]; exact (below_size (zB HB)) : w.heap.size ≤ gb136)); have n4_ := Aside0.mk ((by rw [hg]; exact (below_size (zB HB)) : w.heap.size ≤ gb136)); have n5_ := Aside0.mk ((by rw [hg]; exact Nat.ne_of_lt (blk_lt (g := gb135) (o := .cells #[.int .i64 a0_0, .slice A0_1 l0_1.length c0_1] 24 (0, 0)) (zK BK135)) : gb135 ≠ gb136)); have n6_ := Aside0.mk ((by rw [hg]; exact Nat.ne_of_gt (blk_lt (g := gb135) (o := .cells #[.int .i64 a0_0, .slice A0_1 l0_1.length c0_1] 24 (0, 0)) (zK BK135)) : gb136 ≠ gb135)); clear BK135; clear HB; have BK135 := n0_; have HB := n1_; have BK136 := n2_; have GW136 := n3_; have GE136 := n4_; have NB135_136 := n5_; have NB136_135 := n6_; clear n0_ n1_ n2_ n3_ n4_ n5_ n6_; clear hb hbox hg))
     have n0_ := Aside0.mk (blk_drew BK135.out)
     have n1_ := Aside0.mk (blk_drew BK136.out)
     have n2_ := Aside0.mk (below_drew1 HB.out)
     clear BK135
     clear BK136
     clear HB
     have BK135 := n0_
     have BK136 := n1_
     have HB := n2_
     clear n0_ n1_ n2_
     refine start_ (n := 9) (S := fun w' => w'.cell? ⟨gb135, 0, none⟩ = some (.int .i64 a0_0) ∧ w'.cell? ⟨gb135, 1, none⟩ = some (.slice A0_1 l0_1.length c0_1)) (ds := []) #[false, false, false, false, false, false, false, false, false] (by kernel_rfl) rfl rfl ⟨(blk_cell BK135.out 0).trans rfl, (blk_cell BK135.out 1).trans rfl⟩ (fun hHeld => ?_); refine with_tabW network_New.tab1 network_New.bits1 (fun HT_ HW_ => ?_)
     generalize w5.drew = w6 at BK135 BK136 HB hHeld ⊢
     refine pure_ (i := 0) (N := some 7) (v := ?_) (a' := ?_) #[true, false, false, false, false, false, false, false, false] rfl rfl (any_of HT_.out (by kernel_rfl)) (fun _ _ _ h => h) (Or.inl ⟨by rfl, ?_⟩) ?_ ?_
     rotate_left
     · intro w'
       go_simp
       with_reducible rfl
     rotate_left
     · simp only [Act.put, List.setIfInBounds_toArray, List.set_cons_zero, List.set_cons_succ, i64_w, i32_w]
       rfl
     refine pure_ (i := 3) (N := some 10) (v := ?_) (a' := ?_) #[true, false, false, true, false, false, false, false, false] rfl rfl (any_of HT_.out (by kernel_rfl)) (fun _ _ _ h => h) (Or.inl ⟨by rfl, ?_⟩) ?_ ?_
     rotate_left
     · intro w'
       go_simp
       with_reducible rfl
     rotate_left
     · simp only [Act.put, List.setIfInBounds_toArray, List.set_cons_zero, List.set_cons_succ, i64_w, i32_w]
       rfl
     refine take_ (i := 1) (N := some 8) (v := ?_) (a' := ?_) #[true, true, false, true, false, false, false, false, false] rfl rfl (take_ofW HT_.out HW_.out (by kernel_rfl)) (fun _ _ _ h => h) (Or.inl ⟨by rfl, ?_⟩) hHeld ?_ ?_
     rotate_left
     · rintro w' ⟨s0, s1⟩
       go_simp
       with_reducible rfl
     rotate_left
     · simp only [Act.put, List.setIfInBounds_toArray, List.set_cons_zero, List.set_cons_succ, i64_w, i32_w]
       rfl
     refine take_ (i := 4) (N := some 11) (v := ?_) (a' := ?_) #[true, true, false, true, true, false, false, false, false] rfl rfl (take_ofW HT_.out HW_.out (by kernel_rfl)) (fun _ _ _ h => h) (Or.inl ⟨by rfl, ?_⟩) hHeld ?_ ?_
     rotate_left
     · rintro w' ⟨s0, s1⟩
       go_simp
       with_reducible rfl
     rotate_left
     · simp only [Act.put, List.setIfInBounds_toArray, List.set_cons_zero, List.set_cons_succ, i64_w, i32_w]
       rfl
     refine join_ (σ := Value × Value × Nat) 1 #[true, true, true, true, true, true, true, true, false] (fun s_ => [(9, s_.1), (12, s_.2.1), (3, .pointer (some ⟨s_.2.2, 0, none⟩)), (13, .agg #[.int .u64 0, s_.1, s_.2.1])]) (fun s_ w' => (w'.cell? ⟨gb135, 0, none⟩ = some (.int .i64 a0_0) ∧ w'.cell? ⟨gb135, 1, none⟩ = some (.slice A0_1 l0_1.length c0_1)) ∧ (Kd.R (Kd.int .u64) 76 w' w.heap.size (fun k_ => some k_ ≠ (s_.2.1 : Value).ownBlock) s_.1 y137) ∧ (Kd.R (Kd.int .u64) 76 w' w.heap.size (fun k_ => some k_ ≠ (s_.1 : Value).ownBlock) s_.2.1 y140) ∧ (w'.heap[gb135]? = some (.cells #[.int .i64 a0_0, .slice A0_1 l0_1.length c0_1] 24 (0, 0))) ∧ (w'.heap[gb136]? = some (.cells #[.int .u64 0, .slice none 0 0, .slice none 0 0] 80 (0, 0))) ∧ (w'.heap[s_.2.2]? = some (.cells #[.int .u64 0, .slice none 0 0, .slice none 0 0] 80 (0, 0))) ∧ (w.heap.size ≤ s_.2.2) ∧ (w.heap.size ≤ s_.2.2) ∧ (gb135 ≠ s_.2.2) ∧ (s_.2.2 ≠ gb135) ∧ (gb136 ≠ s_.2.2) ∧ (s_.2.2 ≠ gb136) ∧ (Below w.heap.size w w')) ?_ ?_
     rotate_left
     · intro hJ2_5_7
       refine join_ (σ := Value × Value) 2 #[true, true, true, true, true, true, true, false, false] (fun s_ => [(9, s_.1), (12, s_.2), (13, .agg #[.int .u64 0, s_.1, s_.2])]) (fun s_ w' => (w'.cell? ⟨gb135, 0, none⟩ = some (.int .i64 a0_0) ∧ w'.cell? ⟨gb135, 1, none⟩ = some (.slice A0_1 l0_1.length c0_1)) ∧ (Kd.R (Kd.int .u64) 76 w' w.heap.size (fun k_ => some k_ ≠ (s_.2 : Value).ownBlock) s_.1 y137) ∧ (Kd.R (Kd.int .u64) 76 w' w.heap.size (fun k_ => some k_ ≠ (s_.1 : Value).ownBlock) s_.2 y140) ∧ (w'.heap[gb135]? = some (.cells #[.int .i64 a0_0, .slice A0_1 l0_1.length c0_1] 24 (0, 0))) ∧ (w'.heap[gb136]? = some (.cells #[.int .u64 0, .slice none 0 0, .slice none 0 0] 80 (0, 0))) ∧ (Below w.heap.size w w')) ?_ ?_
       rotate_left
       · intro hJ2_5
         refine join_ (σ := Value × Nat) 3 #[true, true, true, true, true, false, false, true, false] (fun s_ => [(9, s_.1), (3, .pointer (some ⟨s_.2, 0, none⟩))]) (fun s_ w' => (w'.cell? ⟨gb135, 0, none⟩ = some (.int .i64 a0_0) ∧ w'.cell? ⟨gb135, 1, none⟩ = some (.slice A0_1 l0_1.length c0_1)) ∧ (Kd.R (Kd.int .u64) 76 w' w.heap.size (fun _ => True) s_.1 y137) ∧ (w'.heap[gb135]? = some (.cells #[.int .i64 a0_0, .slice A0_1 l0_1.length c0_1] 24 (0, 0))) ∧ (w'.heap[gb136]? = some (.cells #[.int .u64 0, .slice none 0 0, .slice none 0 0] 80 (0, 0))) ∧ (w'.heap[s_.2]? = some (.cells #[.int .u64 0, .slice none 0 0, .slice none 0 0] 80 (0, 0))) ∧ (w.heap.size ≤ s_.2) ∧ (w.heap.size ≤ s_.2) ∧ (gb135 ≠ s_.2) ∧ (s_.2 ≠ gb135) ∧ (gb136 ≠ s_.2) ∧ (s_.2 ≠ gb136) ∧ (Below w.heap.size w w')) ?_ ?_
         rotate_left
         · intro hJ2_7
           refine join_ (σ := Value × Nat) 3 #[true, true, false, true, true, true, false, true, false] (fun s_ => [(12, s_.1), (3, .pointer (some ⟨s_.2, 0, none⟩))]) (fun s_ w' => (w'.cell? ⟨gb135, 0, none⟩ = some (.int .i64 a0_0) ∧ w'.cell? ⟨gb135, 1, none⟩ = some (.slice A0_1 l0_1.length c0_1)) ∧ (Kd.R (Kd.int .u64) 76 w' w.heap.size (fun _ => True) s_.1 y140) ∧ (w'.heap[gb135]? = some (.cells #[.int .i64 a0_0, .slice A0_1 l0_1.length c0_1] 24 (0, 0))) ∧ (w'.heap[gb136]? = some (.cells #[.int .u64 0, .slice none 0 0, .slice none 0 0] 80 (0, 0))) ∧ (w'.heap[s_.2]? = some (.cells #[.int .u64 0, .slice none 0 0, .slice none 0 0] 80 (0, 0))) ∧ (w.heap.size ≤ s_.2) ∧ (w.heap.size ≤ s_.2) ∧ (gb135 ≠ s_.2) ∧ (s_.2 ≠ gb135) ∧ (gb136 ≠ s_.2) ∧ (s_.2 ≠ gb136) ∧ (Below w.heap.size w w')) ?_ ?_
           rotate_left
           · intro hJ5_7
             refine join_ (σ := Value) 4 #[true, true, true, true, true, false, false, false, false] (fun s_ => [(9, s_)]) (fun s_ w' => (w'.cell? ⟨gb135, 0, none⟩ = some (.int .i64 a0_0) ∧ w'.cell? ⟨gb135, 1, none⟩ = some (.slice A0_1 l0_1.length c0_1)) ∧ (Kd.R (Kd.int .u64) 76 w' w.heap.size (fun _ => True) s_ y137) ∧ (w'.heap[gb135]? = some (.cells #[.int .i64 a0_0, .slice A0_1 l0_1.length c0_1] 24 (0, 0))) ∧ (w'.heap[gb136]? = some (.cells #[.int .u64 0, .slice none 0 0, .slice none 0 0] 80 (0, 0))) ∧ (Below w.heap.size w w')) ?_ ?_
             rotate_left
             · intro hJ2
               refine join_ (σ := Value) 4 #[true, true, false, true, true, true, false, false, false] (fun s_ => [(12, s_)]) (fun s_ w' => (w'.cell? ⟨gb135, 0, none⟩ = some (.int .i64 a0_0) ∧ w'.cell? ⟨gb135, 1, none⟩ = some (.slice A0_1 l0_1.length c0_1)) ∧ (Kd.R (Kd.int .u64) 76 w' w.heap.size (fun _ => True) s_ y140) ∧ (w'.heap[gb135]? = some (.cells #[.int .i64 a0_0, .slice A0_1 l0_1.length c0_1] 24 (0, 0))) ∧ (w'.heap[gb136]? = some (.cells #[.int .u64 0, .slice none 0 0, .slice none 0 0] 80 (0, 0))) ∧ (Below w.heap.size w w')) ?_ ?_
               rotate_left
               · intro hJ5
                 refine join_ (σ := Nat) 4 #[true, true, false, true, true, false, false, true, false] (fun s_ => [(3, .pointer (some ⟨s_, 0, none⟩))]) (fun s_ w' => (w'.cell? ⟨gb135, 0, none⟩ = some (.int .i64 a0_0) ∧ w'.cell? ⟨gb135, 1, none⟩ = some (.slice A0_1 l0_1.length c0_1)) ∧ (w'.heap[gb135]? = some (.cells #[.int .i64 a0_0, .slice A0_1 l0_1.length c0_1] 24 (0, 0))) ∧ (w'.heap[gb136]? = some (.cells #[.int .u64 0, .slice none 0 0, .slice none 0 0] 80 (0, 0))) ∧ (w'.heap[s_]? = some (.cells #[.int .u64 0, .slice none 0 0, .slice none 0 0] 80 (0, 0))) ∧ (w.heap.size ≤ s_) ∧ (w.heap.size ≤ s_) ∧ (gb135 ≠ s_) ∧ (s_ ≠ gb135) ∧ (gb136 ≠ s_) ∧ (s_ ≠ gb136) ∧ (Below w.heap.size w w')) ?_ ?_
                 rotate_left
                 · intro hJ7
                   refine three_ (i := 2) (j := 5) (k := 7) (Ni := some 9) (Nj := some 12) (Nk := some 3) #[true, true, true, true, true, false, false, false, false] #[true, true, false, true, true, true, false, false, false] #[true, true, false, true, true, false, false, true, false] rfl rfl rfl rfl rfl rfl (three_of HT_.out (by kernel_rfl)) (by decide) (by decide) (by decide) (fun K hK => ?_) (fun K hK => ?_) (fun K hK => ?_)
                   · skip
                     refine Kd.R_make_step (Kd.int .u64) _ 76 (by rfl) (N := 9) rfl 78 _ _ rfl a0_0 rfl rfl Tryd.underlying78 (.int .u64 0) 8 info76 rfl (by decide) (by omega) 0 (ok := fun _ => True) (okp := fun _ => True) rfl (fun _ hk => hk) trivial (of_decide_eq_true (by first | (with_reducible assumption) | assumption)) (Nat.le_trans (Nat.mul_le_mul_right _ (of_decide_eq_true (by first | (with_reducible assumption) | assumption) : a0_0.toNat ≤ 35184372088832)) (by omega)) (Below.refl _ _) (Nat.le_refl _) ?_
                     intro v138 w7 ho8 hb hg_ hnew_
                     clear hg_ hnew_
                     (first | rw [← Ny137.out] at ho8 | (simp only [Int.reduceToNat] at ho8; rw [← Ny137.out] at ho8))
                     have n0_ := Aside0.mk (Kd.R_lower ho8 (below_size (zB HB)))
                     have n1_ := Aside0.mk (blk_below (g := gb135) (o := .cells #[.int .i64 a0_0, .slice A0_1 l0_1.length c0_1] 24 (0, 0)) (zK BK135) hb)
                     have n2_ := Aside0.mk (blk_below (g := gb136) (o := .cells #[.int .u64 0, .slice none 0 0, .slice none 0 0] 80 (0, 0)) (zK BK136) hb)
                     have n3_ := Aside0.mk (below_step (zB HB) hb)
                     clear BK135
                     clear BK136
                     clear HB
                     have HO139 := n0_
                     have BK135 := n1_
                     have BK136 := n2_
                     have HB := n3_
                     clear n0_ n1_ n2_ n3_
                     clear hb ho8
                     refine hK.out _ _ ⟨(blk_cell BK135.out 0).trans rfl, (blk_cell BK135.out 1).trans rfl⟩ (fun hHeld => ?_)
                     clear hK K
                     refine norm_ (a' := ?_) ?_ ?_
                     rotate_left
                     · show Act.put _ (some 9) _ = _
                       simp only [Act.put, List.setIfInBounds_toArray, List.set_cons_zero, List.set_cons_succ, i64_w, i32_w]
                       rfl
                     exact norm_ (by first | (simp only [putAll, Act.put, List.setIfInBounds_toArray, List.set_cons_zero, List.set_cons_succ]; done) | (simp only [putAll, Act.put, List.setIfInBounds_toArray, List.set_cons_zero, List.set_cons_succ]; rfl)) (hJ2 (v138) _ ⟨hHeld, (zR HO139), (zK BK135), (zK BK136), (zB HB)⟩)
                   · skip
                     refine Kd.R_make_step (Kd.int .u64) _ 76 (by rfl) (N := 12) rfl 78 _ _ rfl a0_0 rfl rfl Tryd.underlying78 (.int .u64 0) 8 info76 rfl (by decide) (by omega) 0 (ok := fun _ => True) (okp := fun _ => True) rfl (fun _ hk => hk) trivial (of_decide_eq_true (by first | (with_reducible assumption) | assumption)) (Nat.le_trans (Nat.mul_le_mul_right _ (of_decide_eq_true (by first | (with_reducible assumption) | assumption) : a0_0.toNat ≤ 35184372088832)) (by omega)) (Below.refl _ _) (Nat.le_refl _) ?_
                     intro v141 w7 ho8 hb hg_ hnew_
                     clear hg_ hnew_
                     (first | rw [← Ny140.out] at ho8 | (simp only [Int.reduceToNat] at ho8; rw [← Ny140.out] at ho8))
                     have n0_ := Aside0.mk (Kd.R_lower ho8 (below_size (zB HB)))
                     have n1_ := Aside0.mk (blk_below (g := gb135) (o := .cells #[.int .i64 a0_0, .slice A0_1 l0_1.length c0_1] 24 (0, 0)) (zK BK135) hb)
                     have n2_ := Aside0.mk (blk_below (g := gb136) (o := .cells #[.int .u64 0, .slice none 0 0, .slice none 0 0] 80 (0, 0)) (zK BK136) hb)
                     have n3_ := Aside0.mk (below_step (zB HB) hb)
                     clear BK135
                     clear BK136
                     clear HB
                     have HO142 := n0_
                     have BK135 := n1_
                     have BK136 := n2_
                     have HB := n3_
                     clear n0_ n1_ n2_ n3_
                     clear hb ho8
                     refine hK.out _ _ ⟨(blk_cell BK135.out 0).trans rfl, (blk_cell BK135.out 1).trans rfl⟩ (fun hHeld => ?_)
                     clear hK K
                     refine norm_ (a' := ?_) ?_ ?_
                     rotate_left
                     · show Act.put _ (some 12) _ = _
                       simp only [Act.put, List.setIfInBounds_toArray, List.set_cons_zero, List.set_cons_succ, i64_w, i32_w]
                       rfl
                     exact norm_ (by first | (simp only [putAll, Act.put, List.setIfInBounds_toArray, List.set_cons_zero, List.set_cons_succ]; done) | (simp only [putAll, Act.put, List.setIfInBounds_toArray, List.set_cons_zero, List.set_cons_succ]; rfl)) (hJ5 (v141) _ ⟨hHeld, (zR HO142), (zK BK135), (zK BK136), (zB HB)⟩)
                   · skip
                     refine box_step ?hg (N := 3) ?hd (cs := #[.int .u64 0, .slice none 0 0, .slice none 0 0]) (t := 80) ?hr ?_; (case hd => rfl); (case hg => rfl); (case hr => first | (go_simp; done) | (go_simp; rfl))
                     intro gb143 hg w7 hbox hb
                     have n0_ := Aside0.mk (blk_below (g := gb135) (o := .cells #[.int .i64 a0_0, .slice A0_1 l0_1.length c0_1] 24 (0, 0)) (zK BK135) hb)
                     have n1_ := Aside0.mk (blk_below (g := gb136) (o := .cells #[.int .u64 0, .slice none 0 0, .slice none 0 0] 80 (0, 0)) (zK BK136) hb)
                     have n2_ := Aside0.mk (below_step (zB HB) hb)
                     have n3_ := Aside0.mk (hbox)
                     have n4_ := Aside0.mk ((by rw [hg]; exact (below_size (zB HB)) : w.heap.size ≤ gb143))
                     have n5_ := Aside0.mk ((by rw [hg]; exact (below_size (zB HB)) : w.heap.size ≤ gb143))
                     have n6_ := Aside0.mk ((by rw [hg]; exact Nat.ne_of_lt (blk_lt (g := gb135) (o := .cells #[.int .i64 a0_0, .slice A0_1 l0_1.length c0_1] 24 (0, 0)) (zK BK135)) : gb135 ≠ gb143))
                     have n7_ := Aside0.mk ((by rw [hg]; exact Nat.ne_of_gt (blk_lt (g := gb135) (o := .cells #[.int .i64 a0_0, .slice A0_1 l0_1.length c0_1] 24 (0, 0)) (zK BK135)) : gb143 ≠ gb135))
                     have n8_ := Aside0.mk ((by rw [hg]; exact Nat.ne_of_lt (blk_lt (g := gb136) (o := .cells #[.int .u64 0, .slice none 0 0, .slice none 0 0] 80 (0, 0)) (zK BK136)) : gb136 ≠ gb143))
                     have n9_ := Aside0.mk ((by rw [hg]; exact Nat.ne_of_gt (blk_lt (g := gb136) (o := .cells #[.int .u64 0, .slice none 0 0, .slice none 0 0] 80 (0, 0)) (zK BK136)) : gb143 ≠ gb136))
                     clear BK135
                     clear BK136
                     clear HB
                     have BK135 := n0_
                     have BK136 := n1_
                     have HB := n2_
                     have BK143 := n3_
                     have GW143 := n4_
                     have GE143 := n5_
                     have NB135_143 := n6_
                     have NB143_135 := n7_
                     have NB136_143 := n8_
                     have NB143_136 := n9_
                     clear n0_ n1_ n2_ n3_ n4_ n5_ n6_ n7_ n8_ n9_
                     clear hb hbox hg
                     refine hK.out _ _ ⟨(blk_cell BK135.out 0).trans rfl, (blk_cell BK135.out 1).trans rfl⟩ (fun hHeld => ?_)
                     clear hK K
                     refine norm_ (a' := ?_) ?_ ?_
                     rotate_left
                     · show Act.put _ (some 3) _ = _
                       simp only [Act.put, List.setIfInBounds_toArray, List.set_cons_zero, List.set_cons_succ, i64_w, i32_w]
                       rfl
                     exact norm_ (by first | (simp only [putAll, Act.put, List.setIfInBounds_toArray, List.set_cons_zero, List.set_cons_succ]; done) | (simp only [putAll, Act.put, List.setIfInBounds_toArray, List.set_cons_zero, List.set_cons_succ]; rfl)) (hJ7 (gb143) _ ⟨hHeld, (zK BK135), (zK BK136), (zK BK143), GW143.out, GE143.out, NB135_143.out, NB143_135.out, NB136_143.out, NB143_136.out, (zB HB)⟩)
                 · skip
                   rintro gb143 w8 ⟨hS_, h0_, h1_, h2_, h3_, h4_, h5_, h6_, h7_, h8_, h9_⟩
                   have n0_ : Aside0 (w8.heap[gb135]? = some (.cells #[.int .i64 a0_0, .slice A0_1 l0_1.length c0_1] 24 (0, 0))) := ⟨h0_⟩
                   have n1_ : Aside0 (w8.heap[gb136]? = some (.cells #[.int .u64 0, .slice none 0 0, .slice none 0 0] 80 (0, 0))) := ⟨h1_⟩
                   have n2_ : Aside0 (w8.heap[gb143]? = some (.cells #[.int .u64 0, .slice none 0 0, .slice none 0 0] 80 (0, 0))) := ⟨h2_⟩
                   have n3_ : Aside0 (w.heap.size ≤ gb143) := ⟨h3_⟩
                   have n4_ : Aside0 (w.heap.size ≤ gb143) := ⟨h4_⟩
                   have n5_ : Aside0 (gb135 ≠ gb143) := ⟨h5_⟩
                   have n6_ : Aside0 (gb143 ≠ gb135) := ⟨h6_⟩
                   have n7_ : Aside0 (gb136 ≠ gb143) := ⟨h7_⟩
                   have n8_ : Aside0 (gb143 ≠ gb136) := ⟨h8_⟩
                   have n9_ : Aside0 (Below w.heap.size w w8) := ⟨h9_⟩
                   clear BK135
                   clear BK136
                   clear HB
                   clear h0_ h1_ h2_ h3_ h4_ h5_ h6_ h7_ h8_ h9_
                   have BK135 := n0_
                   have BK136 := n1_
                   have BK143 := n2_
                   have GW143 := n3_
                   have GE143 := n4_
                   have NB135_143 := n5_
                   have NB143_135 := n6_
                   have NB136_143 := n7_
                   have NB143_136 := n8_
                   have HB := n9_
                   clear n0_ n1_ n2_ n3_ n4_ n5_ n6_ n7_ n8_ n9_
                   have hHeld : w8.cell? ⟨gb135, 0, none⟩ = some (.int .i64 a0_0) ∧ w8.cell? ⟨gb135, 1, none⟩ = some (.slice A0_1 l0_1.length c0_1) := hS_
                   refine norm_ (a' := ?_) ?_ ?_
                   rotate_left
                   · simp only [putAll, Act.put, List.setIfInBounds_toArray, List.set_cons_zero, List.set_cons_succ]
                     rfl
                   refine two_ (i := 2) (j := 5) (Ni := some 9) (Nj := some 12) #[true, true, true, true, true, false, false, true, false] #[true, true, false, true, true, true, false, true, false] rfl rfl rfl rfl (two_of HT_.out (by kernel_rfl)) (by decide) (by decide) (fun K hK => ?_) (fun K hK => ?_)
                   · skip
                     refine Kd.R_make_step (Kd.int .u64) _ 76 (by rfl) (N := 9) rfl 78 _ _ rfl a0_0 rfl rfl Tryd.underlying78 (.int .u64 0) 8 info76 rfl (by decide) (by omega) 0 (ok := fun _ => True) (okp := fun _ => True) rfl (fun _ hk => hk) trivial (of_decide_eq_true (by first | (with_reducible assumption) | assumption)) (Nat.le_trans (Nat.mul_le_mul_right _ (of_decide_eq_true (by first | (with_reducible assumption) | assumption) : a0_0.toNat ≤ 35184372088832)) (by omega)) (Below.refl _ _) (Nat.le_refl _) ?_
                     intro v138 w9 ho10 hb hg_ hnew_
                     clear hg_ hnew_
                     (first | rw [← Ny137.out] at ho10 | (simp only [Int.reduceToNat] at ho10; rw [← Ny137.out] at ho10))
                     have n0_ := Aside0.mk (Kd.R_lower ho10 (below_size (zB HB)))
                     have n1_ := Aside0.mk (blk_below (g := gb135) (o := .cells #[.int .i64 a0_0, .slice A0_1 l0_1.length c0_1] 24 (0, 0)) (zK BK135) hb)
                     have n2_ := Aside0.mk (blk_below (g := gb136) (o := .cells #[.int .u64 0, .slice none 0 0, .slice none 0 0] 80 (0, 0)) (zK BK136) hb)
                     have n3_ := Aside0.mk (blk_below (g := gb143) (o := .cells #[.int .u64 0, .slice none 0 0, .slice none 0 0] 80 (0, 0)) (zK BK143) hb)
                     have n4_ := Aside0.mk (below_step (zB HB) hb)
                     clear BK135
                     clear BK136
                     clear BK143
                     clear HB
                     have HO139 := n0_
                     have BK135 := n1_
                     have BK136 := n2_
                     have BK143 := n3_
                     have HB := n4_
                     clear n0_ n1_ n2_ n3_ n4_
                     clear hb ho10
                     refine hK.out _ _ ⟨(blk_cell BK135.out 0).trans rfl, (blk_cell BK135.out 1).trans rfl⟩ (fun hHeld => ?_)
                     clear hK K
                     refine norm_ (a' := ?_) ?_ ?_
                     rotate_left
                     · show Act.put _ (some 9) _ = _
                       simp only [Act.put, List.setIfInBounds_toArray, List.set_cons_zero, List.set_cons_succ, i64_w, i32_w]
                       rfl
                     exact norm_ (by first | (simp only [putAll, Act.put, List.setIfInBounds_toArray, List.set_cons_zero, List.set_cons_succ]; done) | (simp only [putAll, Act.put, List.setIfInBounds_toArray, List.set_cons_zero, List.set_cons_succ]; rfl)) (hJ2_7 (v138, gb143) _ ⟨hHeld, (zR HO139), (zK BK135), (zK BK136), (zK BK143), GW143.out, GE143.out, NB135_143.out, NB143_135.out, NB136_143.out, NB143_136.out, (zB HB)⟩)
                   · skip
                     refine Kd.R_make_step (Kd.int .u64) _ 76 (by rfl) (N := 12) rfl 78 _ _ rfl a0_0 rfl rfl Tryd.underlying78 (.int .u64 0) 8 info76 rfl (by decide) (by omega) 0 (ok := fun _ => True) (okp := fun _ => True) rfl (fun _ hk => hk) trivial (of_decide_eq_true (by first | (with_reducible assumption) | assumption)) (Nat.le_trans (Nat.mul_le_mul_right _ (of_decide_eq_true (by first | (with_reducible assumption) | assumption) : a0_0.toNat ≤ 35184372088832)) (by omega)) (Below.refl _ _) (Nat.le_refl _) ?_
                     intro v141 w9 ho10 hb hg_ hnew_
                     clear hg_ hnew_
                     (first | rw [← Ny140.out] at ho10 | (simp only [Int.reduceToNat] at ho10; rw [← Ny140.out] at ho10))
                     have n0_ := Aside0.mk (Kd.R_lower ho10 (below_size (zB HB)))
                     have n1_ := Aside0.mk (blk_below (g := gb135) (o := .cells #[.int .i64 a0_0, .slice A0_1 l0_1.length c0_1] 24 (0, 0)) (zK BK135) hb)
                     have n2_ := Aside0.mk (blk_below (g := gb136) (o := .cells #[.int .u64 0, .slice none 0 0, .slice none 0 0] 80 (0, 0)) (zK BK136) hb)
                     have n3_ := Aside0.mk (blk_below (g := gb143) (o := .cells #[.int .u64 0, .slice none 0 0, .slice none 0 0] 80 (0, 0)) (zK BK143) hb)
                     have n4_ := Aside0.mk (below_step (zB HB) hb)
                     clear BK135
                     clear BK136
                     clear BK143
                     clear HB
                     have HO142 := n0_
                     have BK135 := n1_
                     have BK136 := n2_
                     have BK143 := n3_
                     have HB := n4_
                     clear n0_ n1_ n2_ n3_ n4_
                     clear hb ho10
                     refine hK.out _ _ ⟨(blk_cell BK135.out 0).trans rfl, (blk_cell BK135.out 1).trans rfl⟩ (fun hHeld => ?_)
                     clear hK K
                     refine norm_ (a' := ?_) ?_ ?_
                     rotate_left
                     · show Act.put _ (some 12) _ = _
                       simp only [Act.put, List.setIfInBounds_toArray, List.set_cons_zero, List.set_cons_succ, i64_w, i32_w]
                       rfl
                     exact norm_ (by first | (simp only [putAll, Act.put, List.setIfInBounds_toArray, List.set_cons_zero, List.set_cons_succ]; done) | (simp only [putAll, Act.put, List.setIfInBounds_toArray, List.set_cons_zero, List.set_cons_succ]; rfl)) (hJ5_7 (v141, gb143) _ ⟨hHeld, (zR HO142), (zK BK135), (zK BK136), (zK BK143), GW143.out, GE143.out, NB135_143.out, NB143_135.out, NB136_143.out, NB143_136.out, (zB HB)⟩)
               · skip
                 rintro v141 w9 ⟨hS_, h0_, h1_, h2_, h3_⟩
                 have n0_ : Aside0 (Kd.R (Kd.int .u64) 76 w9 w.heap.size (fun _ => True) v141 y140) := ⟨h0_⟩
                 have n1_ : Aside0 (w9.heap[gb135]? = some (.cells #[.int .i64 a0_0, .slice A0_1 l0_1.length c0_1] 24 (0, 0))) := ⟨h1_⟩
                 have n2_ : Aside0 (w9.heap[gb136]? = some (.cells #[.int .u64 0, .slice none 0 0, .slice none 0 0] 80 (0, 0))) := ⟨h2_⟩
                 have n3_ : Aside0 (Below w.heap.size w w9) := ⟨h3_⟩
                 clear BK135
                 clear BK136
                 clear HB
                 clear h0_ h1_ h2_ h3_
                 have HO142 := n0_
                 have BK135 := n1_
                 have BK136 := n2_
                 have HB := n3_
                 clear n0_ n1_ n2_ n3_
                 have hHeld : w9.cell? ⟨gb135, 0, none⟩ = some (.int .i64 a0_0) ∧ w9.cell? ⟨gb135, 1, none⟩ = some (.slice A0_1 l0_1.length c0_1) := hS_
                 refine norm_ (a' := ?_) ?_ ?_
                 rotate_left
                 · simp only [putAll, Act.put, List.setIfInBounds_toArray, List.set_cons_zero, List.set_cons_succ]
                   rfl
                 refine two_ (i := 2) (j := 7) (Ni := some 9) (Nj := some 3) #[true, true, true, true, true, true, false, false, false] #[true, true, false, true, true, true, false, true, false] rfl rfl rfl rfl (two_of HT_.out (by kernel_rfl)) (by decide) (by decide) (fun K hK => ?_) (fun K hK => ?_)
                 · skip
                   refine Kd.R_make_step (Kd.int .u64) _ 76 (by rfl) (N := 9) rfl 78 _ _ rfl a0_0 rfl rfl Tryd.underlying78 (.int .u64 0) 8 info76 rfl (by decide) (by omega) 0 (ok := fun _ => True) (okp := fun _ => True) rfl (fun _ hk => hk) trivial (of_decide_eq_true (by first | (with_reducible assumption) | assumption)) (Nat.le_trans (Nat.mul_le_mul_right _ (of_decide_eq_true (by first | (with_reducible assumption) | assumption) : a0_0.toNat ≤ 35184372088832)) (by omega)) (Below.refl _ _) (Nat.le_refl _) ?_
                   intro v138 w10 ho11 hb hg_ hnew_
                   clear hg_ hnew_
                   (first | rw [← Ny137.out] at ho11 | (simp only [Int.reduceToNat] at ho11; rw [← Ny137.out] at ho11))
                   have n0_ := Aside0.mk (Kd.R_elder' (zR HO142) (Kd.R_base ho11) hb)
                   have n1_ := Aside0.mk (Kd.R_lower (Kd.R_new' ho11 (Kd.R_lt (zR HO142))) (below_size (zB HB)))
                   have n2_ := Aside0.mk (blk_below (g := gb135) (o := .cells #[.int .i64 a0_0, .slice A0_1 l0_1.length c0_1] 24 (0, 0)) (zK BK135) hb)
                   have n3_ := Aside0.mk (blk_below (g := gb136) (o := .cells #[.int .u64 0, .slice none 0 0, .slice none 0 0] 80 (0, 0)) (zK BK136) hb)
                   have n4_ := Aside0.mk (below_step (zB HB) hb)
                   clear HO142
                   clear BK135
                   clear BK136
                   clear HB
                   have HO142 := n0_
                   have HO139 := n1_
                   have BK135 := n2_
                   have BK136 := n3_
                   have HB := n4_
                   clear n0_ n1_ n2_ n3_ n4_
                   clear hb ho11
                   obtain ⟨Ao12, co12, eo12⟩ := Kd.R_slice HO142.out
                   (first | subst eo12 | (injection eo12 with f1_ f2_ f3_; have f4_ := f1_.symm; have f5_ := f3_.symm; clear f1_ f2_ f3_; subst f4_; subst f5_))
                   obtain ⟨Ao13, co13, eo13⟩ := Kd.R_slice HO139.out
                   (first | subst eo13 | (injection eo13 with f1_ f2_ f3_; have f4_ := f1_.symm; have f5_ := f3_.symm; clear f1_ f2_ f3_; subst f4_; subst f5_))
                   refine hK.out _ _ ⟨(blk_cell BK135.out 0).trans rfl, (blk_cell BK135.out 1).trans rfl⟩ (fun hHeld => ?_)
                   clear hK K
                   refine norm_ (a' := ?_) ?_ ?_
                   rotate_left
                   · show Act.put _ (some 9) _ = _
                     simp only [Act.put, List.setIfInBounds_toArray, List.set_cons_zero, List.set_cons_succ, i64_w, i32_w]
                     rfl
                   refine pure_ (i := 6) (N := some 13) (v := ?_) (a' := ?_) #[true, true, true, true, true, true, true, false, false] rfl rfl (any_of HT_.out (by kernel_rfl)) (fun _ _ _ h => h) (Or.inl ⟨by rfl, ?_⟩) ?_ ?_
                   rotate_left
                   · intro w'
                     go_simp
                     with_reducible rfl
                   rotate_left
                   · simp only [Act.put, List.setIfInBounds_toArray, List.set_cons_zero, List.set_cons_succ, i64_w, i32_w]
                     rfl
                   exact norm_ (by first | (simp only [putAll, Act.put, List.setIfInBounds_toArray, List.set_cons_zero, List.set_cons_succ]; done) | (simp only [putAll, Act.put, List.setIfInBounds_toArray, List.set_cons_zero, List.set_cons_succ]; rfl)) (hJ2_5 (.slice Ao13 y137.length co13, .slice Ao12 y140.length co12) _ ⟨hHeld, (by (with_reducible repeat (first | apply Kd.R_alloc | apply Kd.R_drewN | apply Kd.R_drew)); exact Kd.R_mono HO139.out (fun _ hk => hk.2)), (by (with_reducible repeat (first | apply Kd.R_alloc | apply Kd.R_drewN | apply Kd.R_drew)); exact Kd.R_mono HO142.out (fun _ hk => hk.2)), (zK BK135), (zK BK136), (zB HB)⟩)
                 · skip
                   refine box_step ?hg (N := 3) ?hd (cs := #[.int .u64 0, .slice none 0 0, .slice none 0 0]) (t := 80) ?hr ?_; (case hd => rfl); (case hg => rfl); (case hr => first | (go_simp; done) | (go_simp; rfl))
                   intro gb143 hg w10 hbox hb
                   have n0_ := Aside0.mk (Kd.R_below (zR HO142) hb)
                   have n1_ := Aside0.mk (blk_below (g := gb135) (o := .cells #[.int .i64 a0_0, .slice A0_1 l0_1.length c0_1] 24 (0, 0)) (zK BK135) hb)
                   have n2_ := Aside0.mk (blk_below (g := gb136) (o := .cells #[.int .u64 0, .slice none 0 0, .slice none 0 0] 80 (0, 0)) (zK BK136) hb)
                   have n3_ := Aside0.mk (below_step (zB HB) hb)
                   have n4_ := Aside0.mk (hbox)
                   have n5_ := Aside0.mk ((by rw [hg]; exact (below_size (zB HB)) : w.heap.size ≤ gb143))
                   have n6_ := Aside0.mk ((by rw [hg]; exact (below_size (zB HB)) : w.heap.size ≤ gb143))
                   have n7_ := Aside0.mk ((by rw [hg]; exact Nat.ne_of_lt (blk_lt (g := gb135) (o := .cells #[.int .i64 a0_0, .slice A0_1 l0_1.length c0_1] 24 (0, 0)) (zK BK135)) : gb135 ≠ gb143))
                   have n8_ := Aside0.mk ((by rw [hg]; exact Nat.ne_of_gt (blk_lt (g := gb135) (o := .cells #[.int .i64 a0_0, .slice A0_1 l0_1.length c0_1] 24 (0, 0)) (zK BK135)) : gb143 ≠ gb135))
                   have n9_ := Aside0.mk ((by rw [hg]; exact Nat.ne_of_lt (blk_lt (g := gb136) (o := .cells #[.int .u64 0, .slice none 0 0, .slice none 0 0] 80 (0, 0)) (zK BK136)) : gb136 ≠ gb143))
                   have n10_ := Aside0.mk ((by rw [hg]; exact Nat.ne_of_gt (blk_lt (g := gb136) (o := .cells #[.int .u64 0, .slice none 0 0, .slice none 0 0] 80 (0, 0)) (zK BK136)) : gb143 ≠ gb136))
                   clear HO142
                   clear BK135
                   clear BK136
                   clear HB
                   have HO142 := n0_
                   have BK135 := n1_
                   have BK136 := n2_
                   have HB := n3_
                   have BK143 := n4_
                   have GW143 := n5_
                   have GE143 := n6_
                   have NB135_143 := n7_
                   have NB143_135 := n8_
                   have NB136_143 := n9_
                   have NB143_136 := n10_
                   clear n0_ n1_ n2_ n3_ n4_ n5_ n6_ n7_ n8_ n9_ n10_
                   clear hb hbox hg
                   refine hK.out _ _ ⟨(blk_cell BK135.out 0).trans rfl, (blk_cell BK135.out 1).trans rfl⟩ (fun hHeld => ?_)
                   clear hK K
                   refine norm_ (a' := ?_) ?_ ?_
                   rotate_left
                   · show Act.put _ (some 3) _ = _
                     simp only [Act.put, List.setIfInBounds_toArray, List.set_cons_zero, List.set_cons_succ, i64_w, i32_w]
                     rfl
                   exact norm_ (by first | (simp only [putAll, Act.put, List.setIfInBounds_toArray, List.set_cons_zero, List.set_cons_succ]; done) | (simp only [putAll, Act.put, List.setIfInBounds_toArray, List.set_cons_zero, List.set_cons_succ]; rfl)) (hJ5_7 (v141, gb143) _ ⟨hHeld, (zR HO142), (zK BK135), (zK BK136), (zK BK143), GW143.out, GE143.out, NB135_143.out, NB143_135.out, NB136_143.out, NB143_136.out, (zB HB)⟩)
             · skip
               rintro v138 w9 ⟨hS_, h0_, h1_, h2_, h3_⟩
               have n0_ : Aside0 (Kd.R (Kd.int .u64) 76 w9 w.heap.size (fun _ => True) v138 y137) := ⟨h0_⟩
               have n1_ : Aside0 (w9.heap[gb135]? = some (.cells #[.int .i64 a0_0, .slice A0_1 l0_1.length c0_1] 24 (0, 0))) := ⟨h1_⟩
               have n2_ : Aside0 (w9.heap[gb136]? = some (.cells #[.int .u64 0, .slice none 0 0, .slice none 0 0] 80 (0, 0))) := ⟨h2_⟩
               have n3_ : Aside0 (Below w.heap.size w w9) := ⟨h3_⟩
               clear BK135
               clear BK136
               clear HB
               clear h0_ h1_ h2_ h3_
               have HO139 := n0_
               have BK135 := n1_
               have BK136 := n2_
               have HB := n3_
               clear n0_ n1_ n2_ n3_
               have hHeld : w9.cell? ⟨gb135, 0, none⟩ = some (.int .i64 a0_0) ∧ w9.cell? ⟨gb135, 1, none⟩ = some (.slice A0_1 l0_1.length c0_1) := hS_
               refine norm_ (a' := ?_) ?_ ?_
               rotate_left
               · simp only [putAll, Act.put, List.setIfInBounds_toArray, List.set_cons_zero, List.set_cons_succ]
                 rfl
               refine two_ (i := 5) (j := 7) (Ni := some 12) (Nj := some 3) #[true, true, true, true, true, true, false, false, false] #[true, true, true, true, true, false, false, true, false] rfl rfl rfl rfl (two_of HT_.out (by kernel_rfl)) (by decide) (by decide) (fun K hK => ?_) (fun K hK => ?_)
               · skip
                 refine Kd.R_make_step (Kd.int .u64) _ 76 (by rfl) (N := 12) rfl 78 _ _ rfl a0_0 rfl rfl Tryd.underlying78 (.int .u64 0) 8 info76 rfl (by decide) (by omega) 0 (ok := fun _ => True) (okp := fun _ => True) rfl (fun _ hk => hk) trivial (of_decide_eq_true (by first | (with_reducible assumption) | assumption)) (Nat.le_trans (Nat.mul_le_mul_right _ (of_decide_eq_true (by first | (with_reducible assumption) | assumption) : a0_0.toNat ≤ 35184372088832)) (by omega)) (Below.refl _ _) (Nat.le_refl _) ?_
                 intro v141 w10 ho11 hb hg_ hnew_
                 clear hg_ hnew_
                 (first | rw [← Ny140.out] at ho11 | (simp only [Int.reduceToNat] at ho11; rw [← Ny140.out] at ho11))
                 have n0_ := Aside0.mk (Kd.R_elder' (zR HO139) (Kd.R_base ho11) hb)
                 have n1_ := Aside0.mk (Kd.R_lower (Kd.R_new' ho11 (Kd.R_lt (zR HO139))) (below_size (zB HB)))
                 have n2_ := Aside0.mk (blk_below (g := gb135) (o := .cells #[.int .i64 a0_0, .slice A0_1 l0_1.length c0_1] 24 (0, 0)) (zK BK135) hb)
                 have n3_ := Aside0.mk (blk_below (g := gb136) (o := .cells #[.int .u64 0, .slice none 0 0, .slice none 0 0] 80 (0, 0)) (zK BK136) hb)
                 have n4_ := Aside0.mk (below_step (zB HB) hb)
                 clear HO139
                 clear BK135
                 clear BK136
                 clear HB
                 have HO139 := n0_
                 have HO142 := n1_
                 have BK135 := n2_
                 have BK136 := n3_
                 have HB := n4_
                 clear n0_ n1_ n2_ n3_ n4_
                 clear hb ho11
                 obtain ⟨Ao12, co12, eo12⟩ := Kd.R_slice HO142.out
                 (first | subst eo12 | (injection eo12 with f1_ f2_ f3_; have f4_ := f1_.symm; have f5_ := f3_.symm; clear f1_ f2_ f3_; subst f4_; subst f5_))
                 obtain ⟨Ao13, co13, eo13⟩ := Kd.R_slice HO139.out
                 (first | subst eo13 | (injection eo13 with f1_ f2_ f3_; have f4_ := f1_.symm; have f5_ := f3_.symm; clear f1_ f2_ f3_; subst f4_; subst f5_))
                 refine hK.out _ _ ⟨(blk_cell BK135.out 0).trans rfl, (blk_cell BK135.out 1).trans rfl⟩ (fun hHeld => ?_)
                 clear hK K
                 refine norm_ (a' := ?_) ?_ ?_
                 rotate_left
                 · show Act.put _ (some 12) _ = _
                   simp only [Act.put, List.setIfInBounds_toArray, List.set_cons_zero, List.set_cons_succ, i64_w, i32_w]
                   rfl
                 refine pure_ (i := 6) (N := some 13) (v := ?_) (a' := ?_) #[true, true, true, true, true, true, true, false, false] rfl rfl (any_of HT_.out (by kernel_rfl)) (fun _ _ _ h => h) (Or.inl ⟨by rfl, ?_⟩) ?_ ?_
                 rotate_left
                 · intro w'
                   go_simp
                   with_reducible rfl
                 rotate_left
                 · simp only [Act.put, List.setIfInBounds_toArray, List.set_cons_zero, List.set_cons_succ, i64_w, i32_w]
                   rfl
                 exact norm_ (by first | (simp only [putAll, Act.put, List.setIfInBounds_toArray, List.set_cons_zero, List.set_cons_succ]; done) | (simp only [putAll, Act.put, List.setIfInBounds_toArray, List.set_cons_zero, List.set_cons_succ]; rfl)) (hJ2_5 (.slice Ao13 y137.length co13, .slice Ao12 y140.length co12) _ ⟨hHeld, (by (with_reducible repeat (first | apply Kd.R_alloc | apply Kd.R_drewN | apply Kd.R_drew)); exact Kd.R_mono HO139.out (fun _ hk => hk.2)), (by (with_reducible repeat (first | apply Kd.R_alloc | apply Kd.R_drewN | apply Kd.R_drew)); exact Kd.R_mono HO142.out (fun _ hk => hk.2)), (zK BK135), (zK BK136), (zB HB)⟩)
               · skip
                 refine box_step ?hg (N := 3) ?hd (cs := #[.int .u64 0, .slice none 0 0, .slice none 0 0]) (t := 80) ?hr ?_; (case hd => rfl); (case hg => rfl); (case hr => first | (go_simp; done) | (go_simp; rfl))
                 intro gb143 hg w10 hbox hb
                 have n0_ := Aside0.mk (Kd.R_below (zR HO139) hb)
                 have n1_ := Aside0.mk (blk_below (g := gb135) (o := .cells #[.int .i64 a0_0, .slice A0_1 l0_1.length c0_1] 24 (0, 0)) (zK BK135) hb)
                 have n2_ := Aside0.mk (blk_below (g := gb136) (o := .cells #[.int .u64 0, .slice none 0 0, .slice none 0 0] 80 (0, 0)) (zK BK136) hb)
                 have n3_ := Aside0.mk (below_step (zB HB) hb)
                 have n4_ := Aside0.mk (hbox)
                 have n5_ := Aside0.mk ((by rw [hg]; exact (below_size (zB HB)) : w.heap.size ≤ gb143))
                 have n6_ := Aside0.mk ((by rw [hg]; exact (below_size (zB HB)) : w.heap.size ≤ gb143))
                 have n7_ := Aside0.mk ((by rw [hg]; exact Nat.ne_of_lt (blk_lt (g := gb135) (o := .cells #[.int .i64 a0_0, .slice A0_1 l0_1.length c0_1] 24 (0, 0)) (zK BK135)) : gb135 ≠ gb143))
                 have n8_ := Aside0.mk ((by rw [hg]; exact Nat.ne_of_gt (blk_lt (g := gb135) (o := .cells #[.int .i64 a0_0, .slice A0_1 l0_1.length c0_1] 24 (0, 0)) (zK BK135)) : gb143 ≠ gb135))
                 have n9_ := Aside0.mk ((by rw [hg]; exact Nat.ne_of_lt (blk_lt (g := gb136) (o := .cells #[.int .u64 0, .slice none 0 0, .slice none 0 0] 80 (0, 0)) (zK BK136)) : gb136 ≠ gb143))
                 have n10_ := Aside0.mk ((by rw [hg]; exact Nat.ne_of_gt (blk_lt (g := gb136) (o := .cells #[.int .u64 0, .slice none 0 0, .slice none 0 0] 80 (0, 0)) (zK BK136)) : gb143 ≠ gb136))
                 clear HO139
                 clear BK135
                 clear BK136
                 clear HB
                 have HO139 := n0_
                 have BK135 := n1_
                 have BK136 := n2_
                 have HB := n3_
                 have BK143 := n4_
                 have GW143 := n5_
                 have GE143 := n6_
                 have NB135_143 := n7_
                 have NB143_135 := n8_
                 have NB136_143 := n9_
                 have NB143_136 := n10_
                 clear n0_ n1_ n2_ n3_ n4_ n5_ n6_ n7_ n8_ n9_ n10_
                 clear hb hbox hg
                 refine hK.out _ _ ⟨(blk_cell BK135.out 0).trans rfl, (blk_cell BK135.out 1).trans rfl⟩ (fun hHeld => ?_)
                 clear hK K
                 refine norm_ (a' := ?_) ?_ ?_
                 rotate_left
                 · show Act.put _ (some 3) _ = _
                   simp only [Act.put, List.setIfInBounds_toArray, List.set_cons_zero, List.set_cons_succ, i64_w, i32_w]
                   rfl
                 exact norm_ (by first | (simp only [putAll, Act.put, List.setIfInBounds_toArray, List.set_cons_zero, List.set_cons_succ]; done) | (simp only [putAll, Act.put, List.setIfInBounds_toArray, List.set_cons_zero, List.set_cons_succ]; rfl)) (hJ2_7 (v138, gb143) _ ⟨hHeld, (zR HO139), (zK BK135), (zK BK136), (zK BK143), GW143.out, GE143.out, NB135_143.out, NB143_135.out, NB136_143.out, NB143_136.out, (zB HB)⟩)
           · skip
             rintro ⟨v141, gb143⟩ w10 ⟨hS_, h0_, h1_, h2_, h3_, h4_, h5_, h6_, h7_, h8_, h9_, h10_⟩
             have n0_ : Aside0 (Kd.R (Kd.int .u64) 76 w10 w.heap.size (fun _ => True) v141 y140) := ⟨h0_⟩
             have n1_ : Aside0 (w10.heap[gb135]? = some (.cells #[.int .i64 a0_0, .slice A0_1 l0_1.length c0_1] 24 (0, 0))) := ⟨h1_⟩
             have n2_ : Aside0 (w10.heap[gb136]? = some (.cells #[.int .u64 0, .slice none 0 0, .slice none 0 0] 80 (0, 0))) := ⟨h2_⟩
             have n3_ : Aside0 (w10.heap[gb143]? = some (.cells #[.int .u64 0, .slice none 0 0, .slice none 0 0] 80 (0, 0))) := ⟨h3_⟩
             have n4_ : Aside0 (w.heap.size ≤ gb143) := ⟨h4_⟩
             have n5_ : Aside0 (w.heap.size ≤ gb143) := ⟨h5_⟩
             have n6_ : Aside0 (gb135 ≠ gb143) := ⟨h6_⟩
             have n7_ : Aside0 (gb143 ≠ gb135) := ⟨h7_⟩
             have n8_ : Aside0 (gb136 ≠ gb143) := ⟨h8_⟩
             have n9_ : Aside0 (gb143 ≠ gb136) := ⟨h9_⟩
             have n10_ : Aside0 (Below w.heap.size w w10) := ⟨h10_⟩
             clear BK135
             clear BK136
             clear HB
             clear h0_ h1_ h2_ h3_ h4_ h5_ h6_ h7_ h8_ h9_ h10_
             have HO142 := n0_
             have BK135 := n1_
             have BK136 := n2_
             have BK143 := n3_
             have GW143 := n4_
             have GE143 := n5_
             have NB135_143 := n6_
             have NB143_135 := n7_
             have NB136_143 := n8_
             have NB143_136 := n9_
             have HB := n10_
             clear n0_ n1_ n2_ n3_ n4_ n5_ n6_ n7_ n8_ n9_ n10_
             have hHeld : w10.cell? ⟨gb135, 0, none⟩ = some (.int .i64 a0_0) ∧ w10.cell? ⟨gb135, 1, none⟩ = some (.slice A0_1 l0_1.length c0_1) := hS_
             refine norm_ (a' := ?_) ?_ ?_
             rotate_left
             · simp only [putAll, Act.put, List.setIfInBounds_toArray, List.set_cons_zero, List.set_cons_succ]
               rfl
             refine one_ (i := 2) (N := some 9) #[true, true, true, true, true, true, false, true, false] rfl rfl (one_of HT_.out (by kernel_rfl)) (by decide) (fun K hK => ?_)
             refine Kd.R_make_step (Kd.int .u64) _ 76 (by rfl) (N := 9) rfl 78 _ _ rfl a0_0 rfl rfl Tryd.underlying78 (.int .u64 0) 8 info76 rfl (by decide) (by omega) 0 (ok := fun _ => True) (okp := fun _ => True) rfl (fun _ hk => hk) trivial (of_decide_eq_true (by first | (with_reducible assumption) | assumption)) (Nat.le_trans (Nat.mul_le_mul_right _ (of_decide_eq_true (by first | (with_reducible assumption) | assumption) : a0_0.toNat ≤ 35184372088832)) (by omega)) (Below.refl _ _) (Nat.le_refl _) ?_
             intro v138 w11 ho12 hb hg_ hnew_
             clear hg_ hnew_
             (first | rw [← Ny137.out] at ho12 | (simp only [Int.reduceToNat] at ho12; rw [← Ny137.out] at ho12))
             have n0_ := Aside0.mk (Kd.R_elder' (zR HO142) (Kd.R_base ho12) hb)
             have n1_ := Aside0.mk (Kd.R_lower (Kd.R_new' ho12 (Kd.R_lt (zR HO142))) (below_size (zB HB)))
             have n2_ := Aside0.mk (blk_below (g := gb135) (o := .cells #[.int .i64 a0_0, .slice A0_1 l0_1.length c0_1] 24 (0, 0)) (zK BK135) hb)
             have n3_ := Aside0.mk (blk_below (g := gb136) (o := .cells #[.int .u64 0, .slice none 0 0, .slice none 0 0] 80 (0, 0)) (zK BK136) hb)
             have n4_ := Aside0.mk (blk_below (g := gb143) (o := .cells #[.int .u64 0, .slice none 0 0, .slice none 0 0] 80 (0, 0)) (zK BK143) hb)
             have n5_ := Aside0.mk (below_step (zB HB) hb)
             clear HO142
             clear BK135
             clear BK136
             clear BK143
             clear HB
             have HO142 := n0_
             have HO139 := n1_
             have BK135 := n2_
             have BK136 := n3_
             have BK143 := n4_
             have HB := n5_
             clear n0_ n1_ n2_ n3_ n4_ n5_
             clear hb ho12
             obtain ⟨Ao13, co13, eo13⟩ := Kd.R_slice HO142.out
             (first | subst eo13 | (injection eo13 with f1_ f2_ f3_; have f4_ := f1_.symm; have f5_ := f3_.symm; clear f1_ f2_ f3_; subst f4_; subst f5_))
             obtain ⟨Ao14, co14, eo14⟩ := Kd.R_slice HO139.out
             (first | subst eo14 | (injection eo14 with f1_ f2_ f3_; have f4_ := f1_.symm; have f5_ := f3_.symm; clear f1_ f2_ f3_; subst f4_; subst f5_))
             refine hK.out _ _ ⟨(blk_cell BK135.out 0).trans rfl, (blk_cell BK135.out 1).trans rfl⟩ (fun hHeld => ?_)
             clear hK K
             refine norm_ (a' := ?_) ?_ ?_
             rotate_left
             · show Act.put _ (some 9) _ = _
               simp only [Act.put, List.setIfInBounds_toArray, List.set_cons_zero, List.set_cons_succ, i64_w, i32_w]
               rfl
             refine pure_ (i := 6) (N := some 13) (v := ?_) (a' := ?_) #[true, true, true, true, true, true, true, true, false] rfl rfl (any_of HT_.out (by kernel_rfl)) (fun _ _ _ h => h) (Or.inl ⟨by rfl, ?_⟩) ?_ ?_
             rotate_left
             · intro w'
               go_simp
               with_reducible rfl
             rotate_left
             · simp only [Act.put, List.setIfInBounds_toArray, List.set_cons_zero, List.set_cons_succ, i64_w, i32_w]
               rfl
             exact norm_ (by first | (simp only [putAll, Act.put, List.setIfInBounds_toArray, List.set_cons_zero, List.set_cons_succ]; done) | (simp only [putAll, Act.put, List.setIfInBounds_toArray, List.set_cons_zero, List.set_cons_succ]; rfl)) (hJ2_5_7 (.slice Ao14 y137.length co14, .slice Ao13 y140.length co13, gb143) _ ⟨hHeld, (by (with_reducible repeat (first | apply Kd.R_alloc | apply Kd.R_drewN | apply Kd.R_drew)); exact Kd.R_mono HO139.out (fun _ hk => hk.2)), (by (with_reducible repeat (first | apply Kd.R_alloc | apply Kd.R_drewN | apply Kd.R_drew)); exact Kd.R_mono HO142.out (fun _ hk => hk.2)), (zK BK135), (zK BK136), (zK BK143), GW143.out, GE143.out, NB135_143.out, NB143_135.out, NB136_143.out, NB143_136.out, (zB HB)⟩)
         · skip
           rintro ⟨v138, gb143⟩ w10 ⟨hS_, h0_, h1_, h2_, h3_, h4_, h5_, h6_, h7_, h8_, h9_, h10_⟩
           have n0_ : Aside0 (Kd.R (Kd.int .u64) 76 w10 w.heap.size (fun _ => True) v138 y137) := ⟨h0_⟩
           have n1_ : Aside0 (w10.heap[gb135]? = some (.cells #[.int .i64 a0_0, .slice A0_1 l0_1.length c0_1] 24 (0, 0))) := ⟨h1_⟩
           have n2_ : Aside0 (w10.heap[gb136]? = some (.cells #[.int .u64 0, .slice none 0 0, .slice none 0 0] 80 (0, 0))) := ⟨h2_⟩
           have n3_ : Aside0 (w10.heap[gb143]? = some (.cells #[.int .u64 0, .slice none 0 0, .slice none 0 0] 80 (0, 0))) := ⟨h3_⟩
           have n4_ : Aside0 (w.heap.size ≤ gb143) := ⟨h4_⟩
           have n5_ : Aside0 (w.heap.size ≤ gb143) := ⟨h5_⟩
           have n6_ : Aside0 (gb135 ≠ gb143) := ⟨h6_⟩
           have n7_ : Aside0 (gb143 ≠ gb135) := ⟨h7_⟩
           have n8_ : Aside0 (gb136 ≠ gb143) := ⟨h8_⟩
           have n9_ : Aside0 (gb143 ≠ gb136) := ⟨h9_⟩
           have n10_ : Aside0 (Below w.heap.size w w10) := ⟨h10_⟩
           clear BK135
           clear BK136
           clear HB
           clear h0_ h1_ h2_ h3_ h4_ h5_ h6_ h7_ h8_ h9_ h10_
           have HO139 := n0_
           have BK135 := n1_
           have BK136 := n2_
           have BK143 := n3_
           have GW143 := n4_
           have GE143 := n5_
           have NB135_143 := n6_
           have NB143_135 := n7_
           have NB136_143 := n8_
           have NB143_136 := n9_
           have HB := n10_
           clear n0_ n1_ n2_ n3_ n4_ n5_ n6_ n7_ n8_ n9_ n10_
           have hHeld : w10.cell? ⟨gb135, 0, none⟩ = some (.int .i64 a0_0) ∧ w10.cell? ⟨gb135, 1, none⟩ = some (.slice A0_1 l0_1.length c0_1) := hS_
           refine norm_ (a' := ?_) ?_ ?_
           rotate_left
           · simp only [putAll, Act.put, List.setIfInBounds_toArray, List.set_cons_zero, List.set_cons_succ]
             rfl
           refine one_ (i := 5) (N := some 12) #[true, true, true, true, true, true, false, true, false] rfl rfl (one_of HT_.out (by kernel_rfl)) (by decide) (fun K hK => ?_)
           refine Kd.R_make_step (Kd.int .u64) _ 76 (by rfl) (N := 12) rfl 78 _ _ rfl a0_0 rfl rfl Tryd.underlying78 (.int .u64 0) 8 info76 rfl (by decide) (by omega) 0 (ok := fun _ => True) (okp := fun _ => True) rfl (fun _ hk => hk) trivial (of_decide_eq_true (by first | (with_reducible assumption) | assumption)) (Nat.le_trans (Nat.mul_le_mul_right _ (of_decide_eq_true (by first | (with_reducible assumption) | assumption) : a0_0.toNat ≤ 35184372088832)) (by omega)) (Below.refl _ _) (Nat.le_refl _) ?_
           intro v141 w11 ho12 hb hg_ hnew_
           clear hg_ hnew_
           (first | rw [← Ny140.out] at ho12 | (simp only [Int.reduceToNat] at ho12; rw [← Ny140.out] at ho12))
           have n0_ := Aside0.mk (Kd.R_elder' (zR HO139) (Kd.R_base ho12) hb)
           have n1_ := Aside0.mk (Kd.R_lower (Kd.R_new' ho12 (Kd.R_lt (zR HO139))) (below_size (zB HB)))
           have n2_ := Aside0.mk (blk_below (g := gb135) (o := .cells #[.int .i64 a0_0, .slice A0_1 l0_1.length c0_1] 24 (0, 0)) (zK BK135) hb)
           have n3_ := Aside0.mk (blk_below (g := gb136) (o := .cells #[.int .u64 0, .slice none 0 0, .slice none 0 0] 80 (0, 0)) (zK BK136) hb)
           have n4_ := Aside0.mk (blk_below (g := gb143) (o := .cells #[.int .u64 0, .slice none 0 0, .slice none 0 0] 80 (0, 0)) (zK BK143) hb)
           have n5_ := Aside0.mk (below_step (zB HB) hb)
           clear HO139
           clear BK135
           clear BK136
           clear BK143
           clear HB
           have HO139 := n0_
           have HO142 := n1_
           have BK135 := n2_
           have BK136 := n3_
           have BK143 := n4_
           have HB := n5_
           clear n0_ n1_ n2_ n3_ n4_ n5_
           clear hb ho12
           obtain ⟨Ao13, co13, eo13⟩ := Kd.R_slice HO142.out
           (first | subst eo13 | (injection eo13 with f1_ f2_ f3_; have f4_ := f1_.symm; have f5_ := f3_.symm; clear f1_ f2_ f3_; subst f4_; subst f5_))
           obtain ⟨Ao14, co14, eo14⟩ := Kd.R_slice HO139.out
           (first | subst eo14 | (injection eo14 with f1_ f2_ f3_; have f4_ := f1_.symm; have f5_ := f3_.symm; clear f1_ f2_ f3_; subst f4_; subst f5_))
           refine hK.out _ _ ⟨(blk_cell BK135.out 0).trans rfl, (blk_cell BK135.out 1).trans rfl⟩ (fun hHeld => ?_)
           clear hK K
           refine norm_ (a' := ?_) ?_ ?_
           rotate_left
           · show Act.put _ (some 12) _ = _
             simp only [Act.put, List.setIfInBounds_toArray, List.set_cons_zero, List.set_cons_succ, i64_w, i32_w]
             rfl
           refine pure_ (i := 6) (N := some 13) (v := ?_) (a' := ?_) #[true, true, true, true, true, true, true, true, false] rfl rfl (any_of HT_.out (by kernel_rfl)) (fun _ _ _ h => h) (Or.inl ⟨by rfl, ?_⟩) ?_ ?_
           rotate_left
           · intro w'
             go_simp
             with_reducible rfl
           rotate_left
           · simp only [Act.put, List.setIfInBounds_toArray, List.set_cons_zero, List.set_cons_succ, i64_w, i32_w]
             rfl
           exact norm_ (by first | (simp only [putAll, Act.put, List.setIfInBounds_toArray, List.set_cons_zero, List.set_cons_succ]; done) | (simp only [putAll, Act.put, List.setIfInBounds_toArray, List.set_cons_zero, List.set_cons_succ]; rfl)) (hJ2_5_7 (.slice Ao14 y137.length co14, .slice Ao13 y140.length co13, gb143) _ ⟨hHeld, (by (with_reducible repeat (first | apply Kd.R_alloc | apply Kd.R_drewN | apply Kd.R_drew)); exact Kd.R_mono HO139.out (fun _ hk => hk.2)), (by (with_reducible repeat (first | apply Kd.R_alloc | apply Kd.R_drewN | apply Kd.R_drew)); exact Kd.R_mono HO142.out (fun _ hk => hk.2)), (zK BK135), (zK BK136), (zK BK143), GW143.out, GE143.out, NB135_143.out, NB143_135.out, NB136_143.out, NB143_136.out, (zB HB)⟩)
       · skip
         rintro ⟨v138, v141⟩ w13 ⟨hS_, h0_, h1_, h2_, h3_, h4_⟩
         have n0_ : Aside0 (Kd.R (Kd.int .u64) 76 w13 w.heap.size (fun k_ => some k_ ≠ (v141 : Value).ownBlock) v138 y137) := ⟨h0_⟩
         have n1_ : Aside0 (Kd.R (Kd.int .u64) 76 w13 w.heap.size (fun k_ => some k_ ≠ (v138 : Value).ownBlock) v141 y140) := ⟨h1_⟩
         have n2_ : Aside0 (w13.heap[gb135]? = some (.cells #[.int .i64 a0_0, .slice A0_1 l0_1.length c0_1] 24 (0, 0))) := ⟨h2_⟩
         have n3_ : Aside0 (w13.heap[gb136]? = some (.cells #[.int .u64 0, .slice none 0 0, .slice none 0 0] 80 (0, 0))) := ⟨h3_⟩
         have n4_ : Aside0 (Below w.heap.size w w13) := ⟨h4_⟩
         clear BK135
         clear BK136
         clear HB
         clear h0_ h1_ h2_ h3_ h4_
         have HO139 := n0_
         have HO142 := n1_
         have BK135 := n2_
         have BK136 := n3_
         have HB := n4_
         clear n0_ n1_ n2_ n3_ n4_
         have hHeld : w13.cell? ⟨gb135, 0, none⟩ = some (.int .i64 a0_0) ∧ w13.cell? ⟨gb135, 1, none⟩ = some (.slice A0_1 l0_1.length c0_1) := hS_
         obtain ⟨Ao14, co14, eo14⟩ := Kd.R_slice HO142.out
         (first | subst eo14 | (injection eo14 with f1_ f2_ f3_; have f4_ := f1_.symm; have f5_ := f3_.symm; clear f1_ f2_ f3_; subst f4_; subst f5_))
         obtain ⟨Ao15, co15, eo15⟩ := Kd.R_slice HO139.out
         (first | subst eo15 | (injection eo15 with f1_ f2_ f3_; have f4_ := f1_.symm; have f5_ := f3_.symm; clear f1_ f2_ f3_; subst f4_; subst f5_))
         refine norm_ (a' := ?_) ?_ ?_
         rotate_left
         · simp only [putAll, Act.put, List.setIfInBounds_toArray, List.set_cons_zero, List.set_cons_succ]
           rfl
         refine one_ (i := 7) (N := some 3) #[true, true, true, true, true, true, true, true, false] rfl rfl (one_of HT_.out (by kernel_rfl)) (by decide) (fun K hK => ?_)
         refine box_step ?hg (N := 3) ?hd (cs := #[.int .u64 0, .slice none 0 0, .slice none 0 0]) (t := 80) ?hr ?_; (case hd => rfl); (case hg => rfl); (case hr => first | (go_simp; done) | (go_simp; rfl))
         intro gb143 hg w16 hbox hb
         have n0_ := Aside0.mk (Kd.R_below (zR HO139) hb)
         have n1_ := Aside0.mk (Kd.R_below (zR HO142) hb)
         have n2_ := Aside0.mk (blk_below (g := gb135) (o := .cells #[.int .i64 a0_0, .slice A0_1 l0_1.length c0_1] 24 (0, 0)) (zK BK135) hb)
         have n3_ := Aside0.mk (blk_below (g := gb136) (o := .cells #[.int .u64 0, .slice none 0 0, .slice none 0 0] 80 (0, 0)) (zK BK136) hb)
         have n4_ := Aside0.mk (below_step (zB HB) hb)
         have n5_ := Aside0.mk (hbox)
         have n6_ := Aside0.mk ((by rw [hg]; exact (below_size (zB HB)) : w.heap.size ≤ gb143))
         have n7_ := Aside0.mk ((by rw [hg]; exact (below_size (zB HB)) : w.heap.size ≤ gb143))
         have n8_ := Aside0.mk ((by rw [hg]; exact Nat.ne_of_lt (blk_lt (g := gb135) (o := .cells #[.int .i64 a0_0, .slice A0_1 l0_1.length c0_1] 24 (0, 0)) (zK BK135)) : gb135 ≠ gb143))
         have n9_ := Aside0.mk ((by rw [hg]; exact Nat.ne_of_gt (blk_lt (g := gb135) (o := .cells #[.int .i64 a0_0, .slice A0_1 l0_1.length c0_1] 24 (0, 0)) (zK BK135)) : gb143 ≠ gb135))
         have n10_ := Aside0.mk ((by rw [hg]; exact Nat.ne_of_lt (blk_lt (g := gb136) (o := .cells #[.int .u64 0, .slice none 0 0, .slice none 0 0] 80 (0, 0)) (zK BK136)) : gb136 ≠ gb143))
         have n11_ := Aside0.mk ((by rw [hg]; exact Nat.ne_of_gt (blk_lt (g := gb136) (o := .cells #[.int .u64 0, .slice none 0 0, .slice none 0 0] 80 (0, 0)) (zK BK136)) : gb143 ≠ gb136))
         clear HO139
         clear HO142
         clear BK135
         clear BK136
         clear HB
         have HO139 := n0_
         have HO142 := n1_
         have BK135 := n2_
         have BK136 := n3_
         have HB := n4_
         have BK143 := n5_
         have GW143 := n6_
         have GE143 := n7_
         have NB135_143 := n8_
         have NB143_135 := n9_
         have NB136_143 := n10_
         have NB143_136 := n11_
         clear n0_ n1_ n2_ n3_ n4_ n5_ n6_ n7_ n8_ n9_ n10_ n11_
         clear hb hbox hg
         refine hK.out _ _ ⟨(blk_cell BK135.out 0).trans rfl, (blk_cell BK135.out 1).trans rfl⟩ (fun hHeld => ?_)
         clear hK K
         refine norm_ (a' := ?_) ?_ ?_
         rotate_left
         · show Act.put _ (some 3) _ = _
           simp only [Act.put, List.setIfInBounds_toArray, List.set_cons_zero, List.set_cons_succ, i64_w, i32_w]
           rfl
         exact norm_ (by first | (simp only [putAll, Act.put, List.setIfInBounds_toArray, List.set_cons_zero, List.set_cons_succ]; done) | (simp only [putAll, Act.put, List.setIfInBounds_toArray, List.set_cons_zero, List.set_cons_succ]; rfl)) (hJ2_5_7 (.slice Ao15 y137.length co15, .slice Ao14 y140.length co14, gb143) _ ⟨hHeld, (zR HO139), (zR HO142), (zK BK135), (zK BK136), (zK BK143), GW143.out, GE143.out, NB135_143.out, NB143_135.out, NB136_143.out, NB143_136.out, (zB HB)⟩)
     rintro ⟨v138, v141, gb143⟩ w14 ⟨hS_, h0_, h1_, h2_, h3_, h4_, h5_, h6_, h7_, h8_, h9_, h10_, h11_⟩
     have n0_ : Aside0 (Kd.R (Kd.int .u64) 76 w14 w.heap.size (fun k_ => some k_ ≠ (v141 : Value).ownBlock) v138 y137) := ⟨h0_⟩
     have n1_ : Aside0 (Kd.R (Kd.int .u64) 76 w14 w.heap.size (fun k_ => some k_ ≠ (v138 : Value).ownBlock) v141 y140) := ⟨h1_⟩
     have n2_ : Aside0 (w14.heap[gb135]? = some (.cells #[.int .i64 a0_0, .slice A0_1 l0_1.length c0_1] 24 (0, 0))) := ⟨h2_⟩
     have n3_ : Aside0 (w14.heap[gb136]? = some (.cells #[.int .u64 0, .slice none 0 0, .slice none 0 0] 80 (0, 0))) := ⟨h3_⟩
     have n4_ : Aside0 (w14.heap[gb143]? = some (.cells #[.int .u64 0, .slice none 0 0, .slice none 0 0] 80 (0, 0))) := ⟨h4_⟩
     have n5_ : Aside0 (w.heap.size ≤ gb143) := ⟨h5_⟩
     have n6_ : Aside0 (w.heap.size ≤ gb143) := ⟨h6_⟩
     have n7_ : Aside0 (gb135 ≠ gb143) := ⟨h7_⟩
     have n8_ : Aside0 (gb143 ≠ gb135) := ⟨h8_⟩
     have n9_ : Aside0 (gb136 ≠ gb143) := ⟨h9_⟩
     have n10_ : Aside0 (gb143 ≠ gb136) := ⟨h10_⟩
     have n11_ : Aside0 (Below w.heap.size w w14) := ⟨h11_⟩
     clear BK135
     clear BK136
     clear HB
     clear h0_ h1_ h2_ h3_ h4_ h5_ h6_ h7_ h8_ h9_ h10_ h11_
     have HO139 := n0_
     have HO142 := n1_
     have BK135 := n2_
     have BK136 := n3_
     have BK143 := n4_
     have GW143 := n5_
     have GE143 := n6_
     have NB135_143 := n7_
     have NB143_135 := n8_
     have NB136_143 := n9_
     have NB143_136 := n10_
     have HB := n11_
     clear n0_ n1_ n2_ n3_ n4_ n5_ n6_ n7_ n8_ n9_ n10_ n11_
     have hHeld : w14.cell? ⟨gb135, 0, none⟩ = some (.int .i64 a0_0) ∧ w14.cell? ⟨gb135, 1, none⟩ = some (.slice A0_1 l0_1.length c0_1) := hS_
     obtain ⟨Ao15, co15, eo15⟩ := Kd.R_slice HO142.out
     (first | subst eo15 | (injection eo15 with f1_ f2_ f3_; have f4_ := f1_.symm; have f5_ := f3_.symm; clear f1_ f2_ f3_; subst f4_; subst f5_))
     obtain ⟨Ao16, co16, eo16⟩ := Kd.R_slice HO139.out
     (first | subst eo16 | (injection eo16 with f1_ f2_ f3_; have f4_ := f1_.symm; have f5_ := f3_.symm; clear f1_ f2_ f3_; subst f4_; subst f5_))
     refine norm_ (a' := ?_) ?_ ?_
     rotate_left
     · simp only [putAll, Act.put, List.setIfInBounds_toArray, List.set_cons_zero, List.set_cons_succ]
       rfl
     refine one_ (i := 8) (N := none) #[true, true, true, true, true, true, true, true, true] rfl rfl (one_of HT_.out (by kernel_rfl)) (by decide) (fun K hK => ?_)
     have hs17 : w14.cell? ⟨gb143, 0, none⟩ = some (.int .u64 0) := (blk_cell BK143.out 0).trans rfl
     have hfs17 := blk_frozen BK143.out 0
     have hns17_0 := NB135_143.out
     have hns17_1 := NB136_143.out
     have hms17_0 := NB143_135.out
     have hms17_1 := NB143_136.out
     have hs18 : w14.cell? ⟨gb143, 1, none⟩ = some (.slice none 0 0) := (blk_cell BK143.out 1).trans rfl
     have hfs18 := blk_frozen BK143.out 1
     have hns18_0 := NB135_143.out
     have hns18_1 := NB136_143.out
     have hms18_0 := NB143_135.out
     have hms18_1 := NB143_136.out
     have hs19 : w14.cell? ⟨gb143, 2, none⟩ = some (.slice none 0 0) := (blk_cell BK143.out 2).trans rfl
     have hfs19 := blk_frozen BK143.out 2
     have hns19_0 := NB135_143.out
     have hns19_1 := NB136_143.out
     have hms19_0 := NB143_135.out
     have hms19_1 := NB143_136.out
     refine skip_ (w1 := ?_) (by rfl) rfl ?_ ?_
     rotate_left
     · go_simp
       rfl
     refine hK.out _ _ ⟨((cell_far (p := ⟨gb143, _, none⟩) NB135_143.out _).trans (((cell_far (p := ⟨gb143, _, none⟩) NB135_143.out _).trans (((cell_far (p := ⟨gb143, _, none⟩) NB135_143.out _).trans (hHeld.1)))))), ((cell_far (p := ⟨gb143, _, none⟩) NB135_143.out _).trans (((cell_far (p := ⟨gb143, _, none⟩) NB135_143.out _).trans (((cell_far (p := ⟨gb143, _, none⟩) NB135_143.out _).trans (hHeld.2))))))⟩ (fun hHeld => ?_)
     clear hK K
     refine done_ (done_of HT_.out (by kernel_rfl)) ?_
     have hnb20 := NB135_136.out
     have hnc20 := NB136_135.out
     have hnb21 := NB135_143.out
     have hnc21 := NB143_135.out
     have hcz22_0 : w14.cell? ⟨gb135, 0, none⟩ = some (.int .i64 a0_0) := (blk_cell BK135.out 0).trans rfl
     have hcz22_1 : w14.cell? ⟨gb135, 1, none⟩ = some (.slice A0_1 l0_1.length c0_1) := (blk_cell BK135.out 1).trans rfl
     have hfz22_0 := blk_frozen BK135.out 0
     have hfz22_1 := blk_frozen BK135.out 1
     try go_wp2
     go_loopg [16] k (fun kq v16 w' => ∃ (x16_1 : Int) (x144000_1 : Int), v16 = .int .i64 x16_1 ∧ Aside0 (network_New.l0 kq a0_0 x16_1 a0_0 l0_1 x144000_1 y137 y140 = some (r1, r2, r3)) ∧ Aside0 (kq ≤ k) ∧ Aside0 (Kd.R (Kd.int .u64) 76 w' w.heap.size (fun k_ => some k_ ≠ ((.slice Ao15 y140.length co15) : Value).ownBlock) (.slice Ao16 y137.length co16) y137) ∧ Aside0 (Kd.R (Kd.int .u64) 76 w' w.heap.size (fun k_ => some k_ ≠ ((.slice Ao16 y137.length co16) : Value).ownBlock) (.slice Ao15 y140.length co15) y140) ∧ Aside0 (w'.heap[gb135]? = some (.cells #[.int .i64 a0_0, (.slice A0_1 l0_1.length c0_1)] 24 (0, 0))) ∧ Aside0 (w'.heap[gb136]? = some (.cells #[.int .u64 0, (.slice none 0 0), (.slice none 0 0)] 80 (0, 0))) ∧ Aside0 (w'.heap[gb143]? = some (.cells #[.int .u64 x144000_1, (.slice Ao16 y137.length co16), (.slice Ao15 y140.length co15)] 80 (0, 0))) ∧ Aside0 (Below w.heap.size w w'))
     case atStart => exact ⟨(0), (0), (by first | rfl | (simp; done) | (simp [*]; done)), H', ⟨Nat.le_refl _⟩, ⟨by (with_reducible repeat (first | apply Kd.R_alloc | apply Kd.R_drewN | apply Kd.R_drew)); exact Kd.R_mono (Kd.R_far (p := ⟨gb143, 2, none⟩) (Kd.R_far (p := ⟨gb143, 1, none⟩) (Kd.R_far (p := ⟨gb143, 0, none⟩) (Kd.R_types HO139.out BK143.out (by decide)) (fun _ hk => hk.2) (.int .u64 0)) (fun _ hk => hk.2) (.slice Ao16 y137.length co16)) (fun _ hk => hk.2) (.slice Ao15 y140.length co15)) (fun _ hk => hk.1)⟩, ⟨by (with_reducible repeat (first | apply Kd.R_alloc | apply Kd.R_drewN | apply Kd.R_drew)); exact Kd.R_mono (Kd.R_far (p := ⟨gb143, 2, none⟩) (Kd.R_far (p := ⟨gb143, 1, none⟩) (Kd.R_far (p := ⟨gb143, 0, none⟩) (Kd.R_types HO142.out BK143.out (by decide)) (fun _ hk => hk.2) (.int .u64 0)) (fun _ hk => hk.2) (.slice Ao16 y137.length co16)) (fun _ hk => hk.2) (.slice Ao15 y140.length co15)) (fun _ hk => hk.1)⟩, ⟨by (with_reducible repeat (first | refine blk_drewN ?_ _ | refine blk_drew ?_ | refine blk_alloc ?_ _)); refine blk_far ?_ NB135_143.out _; (with_reducible repeat (first | refine blk_drewN ?_ _ | refine blk_drew ?_ | refine blk_alloc ?_ _)); refine blk_far ?_ NB135_143.out _; (with_reducible repeat (first | refine blk_drewN ?_ _ | refine blk_drew ?_ | refine blk_alloc ?_ _)); refine blk_far ?_ NB135_143.out _; (with_reducible repeat (first | refine blk_drewN ?_ _ | refine blk_drew ?_ | refine blk_alloc ?_ _)); exact BK135.out⟩, ⟨by (with_reducible repeat (first | refine blk_drewN ?_ _ | refine blk_drew ?_ | refine blk_alloc ?_ _)); refine blk_far ?_ NB136_143.out _; (with_reducible repeat (first | refine blk_drewN ?_ _ | refine blk_drew ?_ | refine blk_alloc ?_ _)); refine blk_far ?_ NB136_143.out _; (with_reducible repeat (first | refine blk_drewN ?_ _ | refine blk_drew ?_ | refine blk_alloc ?_ _)); refine blk_far ?_ NB136_143.out _; (with_reducible repeat (first | refine blk_drewN ?_ _ | refine blk_drew ?_ | refine blk_alloc ?_ _)); exact BK136.out⟩, ⟨by (with_reducible repeat (first | refine blk_drewN ?_ _ | refine blk_drew ?_ | refine blk_alloc ?_ _)); refine blk_put (cs := #[.int .u64 0, .slice Ao16 y137.length co16, .slice none 0 0]) ?_ 2 _ rfl; (with_reducible repeat (first | refine blk_drewN ?_ _ | refine blk_drew ?_ | refine blk_alloc ?_ _)); refine blk_put (cs := #[.int .u64 0, .slice none 0 0, .slice none 0 0]) ?_ 1 _ rfl; (with_reducible repeat (first | refine blk_drewN ?_ _ | refine blk_drew ?_ | refine blk_alloc ?_ _)); refine blk_put (cs := #[.int .u64 0, .slice none 0 0, .slice none 0 0]) ?_ 0 _ rfl; (with_reducible repeat (first | refine blk_drewN ?_ _ | refine blk_drew ?_ | refine blk_alloc ?_ _)); exact BK143.out⟩, ⟨zB HB⟩⟩
     case round =>
      clear H'
      try clear c2
      try clear p2
      try clear c20
      try clear c21
      try clear hcz22_0
      try clear hcz22_1
      try clear hfz22_0
      try clear hfz22_1
      obtain ⟨x16_1, x144000_1, rfl, HA, HK1, HO_144001, HO_144002, BK135, BK136, BK143, HB⟩ := hrel
      cases gk with
      | zero => exact absurd HA.out (by simp [network_New.l0])
      | succ k1 =>
       have H := HA.out
       clear HA
       simp only [network_New.l0] at H
       by_cases c23 : x16_1 < a0_0
       · rw [if_pos c23] at H
         have c23b0 : decide (x16_1 < a0_0) = true := decide_eq_true c23
         clear c23
         replace H := Option.bind_eq_some_iff.mp H
         obtain ⟨t144, A240, H⟩ := H
         replace H : (network_New.l0 k1 a0_0 (wrap64 (x16_1 + 1)) a0_0 l0_1 t144 y137 y140) = some (r1, r2, r3) := H
         have A24 := Aside0.mk A240
         clear A240
         have H' := Aside0.mk H
         clear H
         have hnb25 := NB143_135.out
         have hnc25 := NB135_143.out
         have hnb26 := NB143_136.out
         have hnc26 := NB136_143.out
         have hcz27_0 : wr.cell? ⟨gb143, 0, none⟩ = some (.int .u64 x144000_1) := (blk_cell BK143.out 0).trans rfl
         have hcz27_1 : wr.cell? ⟨gb143, 1, none⟩ = some (.slice Ao16 y137.length co16) := (blk_cell BK143.out 1).trans rfl
         have hcz27_2 : wr.cell? ⟨gb143, 2, none⟩ = some (.slice Ao15 y140.length co15) := (blk_cell BK143.out 2).trans rfl
         have hfz27_0 := blk_frozen BK143.out 0
         have hfz27_1 := blk_frozen BK143.out 1
         have hfz27_2 := blk_frozen BK143.out 2
         go_wp2_with (first | ((with_reducible refine gate_callee (f := 51) rfl ?_); refine goesL_ (some 22) rfl rfl Tryd.func51 (by kernel_rfl) rfl #[.int .u64 x144000_1, .int .i64 x16_1] rfl (by (try simp only [List.map_toArray, List.map_cons, List.map_nil]); first | done | rfl | (simp only [List.length_drop, List.length_take]; rfl)) ?_; (with_reducible refine (network_Set_With.calls x144000_1 x16_1 t144 _ A24.out).mono ?_); rintro e w' ⟨rfl, ⟨nd, rfl⟩⟩; refine ⟨_, rfl, ?_⟩))
         go_roundg k1
         case measure => have := HK1.out; omega
         case rel => exact ⟨(wrap64 (x16_1 + 1)), (t144), (by first | rfl | (simp; done) | (simp [*]; done)), H', ⟨by have := HK1.out; omega⟩, ⟨by (with_reducible repeat (first | apply Kd.R_alloc | apply Kd.R_drewN | apply Kd.R_drew)); exact Kd.R_mono (Kd.R_far (p := ⟨gb143, 0, none⟩) (Kd.R_types HO_144001.out BK143.out (by decide)) (fun _ hk => hk.2) (.int .u64 t144)) (fun _ hk => hk.1)⟩, ⟨by (with_reducible repeat (first | apply Kd.R_alloc | apply Kd.R_drewN | apply Kd.R_drew)); exact Kd.R_mono (Kd.R_far (p := ⟨gb143, 0, none⟩) (Kd.R_types HO_144002.out BK143.out (by decide)) (fun _ hk => hk.2) (.int .u64 t144)) (fun _ hk => hk.1)⟩, ⟨by (with_reducible repeat (first | refine blk_drewN ?_ _ | refine blk_drew ?_ | refine blk_alloc ?_ _)); refine blk_far ?_ NB135_143.out _; (with_reducible repeat (first | refine blk_drewN ?_ _ | refine blk_drew ?_ | refine blk_alloc ?_ _)); exact BK135.out⟩, ⟨by (with_reducible repeat (first | refine blk_drewN ?_ _ | refine blk_drew ?_ | refine blk_alloc ?_ _)); refine blk_far ?_ NB136_143.out _; (with_reducible repeat (first | refine blk_drewN ?_ _ | refine blk_drew ?_ | refine blk_alloc ?_ _)); exact BK136.out⟩, ⟨by (with_reducible repeat (first | refine blk_drewN ?_ _ | refine blk_drew ?_ | refine blk_alloc ?_ _)); refine blk_put (cs := #[.int .u64 x144000_1, .slice Ao16 y137.length co16, .slice Ao15 y140.length co15]) ?_ 0 _ rfl; (with_reducible repeat (first | refine blk_drewN ?_ _ | refine blk_drew ?_ | refine blk_alloc ?_ _)); exact BK143.out⟩, ⟨zB HB⟩⟩
       · rw [if_neg c23] at H
         have c23b0 : decide (x16_1 < a0_0) = false := decide_eq_false c23
         clear c23
         have H' := Aside0.mk H
         clear H
         have hnb28 := NB135_136.out
         have hnc28 := NB136_135.out
         have hnb29 := NB135_143.out
         have hnc29 := NB143_135.out
         have hcz30_0 : wr.cell? ⟨gb135, 0, none⟩ = some (.int .i64 a0_0) := (blk_cell BK135.out 0).trans rfl
         have hcz30_1 : wr.cell? ⟨gb135, 1, none⟩ = some (.slice A0_1 l0_1.length c0_1) := (blk_cell BK135.out 1).trans rfl
         have hfz30_0 := blk_frozen BK135.out 0
         have hfz30_1 := blk_frozen BK135.out 1
         go_wp2
         go_loopg [28] k1 (fun kq v28 w' => ∃ (x28_2 : Int) (x144001_2 : List Int) (x144002_2 : List Int) (u144001 : Value) (u144002 : Value), v28 = .int .i64 x28_2 ∧ Aside0 (network_New.l1 kq l0_1 (l0_1.length : Int) x28_2 x144000_1 x144001_2 x144002_2 = some (r1, r2, r3)) ∧ Aside0 (kq ≤ k1) ∧ Aside0 (Kd.R (Kd.int .u64) 76 w' w.heap.size (fun k_ => some k_ ≠ (u144002 : Value).ownBlock) u144001 x144001_2) ∧ Aside0 (Kd.R (Kd.int .u64) 76 w' w.heap.size (fun k_ => some k_ ≠ (u144001 : Value).ownBlock) u144002 x144002_2) ∧ Aside0 (w'.heap[gb135]? = some (.cells #[.int .i64 a0_0, (.slice A0_1 l0_1.length c0_1)] 24 (0, 0))) ∧ Aside0 (w'.heap[gb136]? = some (.cells #[.int .u64 0, (.slice none 0 0), (.slice none 0 0)] 80 (0, 0))) ∧ Aside0 (w'.heap[gb143]? = some (.cells #[.int .u64 x144000_1, u144001, u144002] 80 (0, 0))) ∧ Aside0 (Below w.heap.size w w'))
         case atStart => exact ⟨(0), (y137), (y140), (.slice Ao16 y137.length co16), (.slice Ao15 y140.length co15), (by first | rfl | (simp; done) | (simp [*]; done)), H', ⟨Nat.le_refl _⟩, ⟨zR HO_144001⟩, ⟨zR HO_144002⟩, ⟨zK BK135⟩, ⟨zK BK136⟩, ⟨zK BK143⟩, ⟨zB HB⟩⟩
         case round =>
          clear H'
          try clear c2
          try clear p2
          try clear c5
          try clear p6
          try clear c20
          try clear c21
          try clear c23
          try clear c23b0
          try clear c25
          try clear c26
          try clear c28
          try clear c29
          try clear hcz22_0
          try clear hcz22_1
          try clear hcz27_0
          try clear hcz27_1
          try clear hcz27_2
          try clear hcz30_0
          try clear hcz30_1
          try clear hfz22_0
          try clear hfz22_1
          try clear hfz27_0
          try clear hfz27_1
          try clear hfz27_2
          try clear hfz30_0
          try clear hfz30_1
          try clear p2
          obtain ⟨x28_2, x144001_2, x144002_2, u144001, u144002, rfl, HA, HK2, HO_144001, HO_144002, BK135, BK136, BK143, HB⟩ := hrel
          cases gk with
          | zero => exact absurd HA.out (by simp [network_New.l1])
          | succ k2 =>
           have H := HA.out
           clear HA
           simp only [network_New.l1] at H
           by_cases c31 : x28_2 < (l0_1.length : Int)
           · rw [if_pos c31] at H
             have c31b0 : decide (x28_2 < (l0_1.length : Int)) = true := decide_eq_true c31
             clear c31
             by_cases c32 : 0 ≤ x28_2
             · rw [if_pos c32] at H
               have c32b0 : decide (0 ≤ x28_2) = true := decide_eq_true c32
               clear c32
               by_cases c33 : x28_2 < (l0_1.length : Int)
               · rw [if_pos c33] at H
                 have c33b0 : decide (x28_2 < (l0_1.length : Int)) = true := decide_eq_true c33
                 clear c33
                 by_cases c34 : 0 ≤ ((rd_T42 l0_1 x28_2).f1)
                 · rw [if_pos c34] at H
                   have c34b0 : decide (0 ≤ ((rd_T42 l0_1 x28_2).f1)) = true := decide_eq_true c34
                   clear c34
                   by_cases c35 : ((rd_T42 l0_1 x28_2).f1) < (x144001_2.length : Int)
                   · rw [if_pos c35] at H
                     have c35b0 : decide (((rd_T42 l0_1 x28_2).f1) < (x144001_2.length : Int)) = true := decide_eq_true c35
                     clear c35
                     replace H := Option.bind_eq_some_iff.mp H
                     obtain ⟨t148, A360, H⟩ := H
                     replace H : (if 0 ≤ ((rd_T42 l0_1 x28_2).f0) then (if ((rd_T42 l0_1 x28_2).f0) < (x144002_2.length : Int) then ((network_Set_With.f (rd x144002_2 ((rd_T42 l0_1 x28_2).f0)) ((rd_T42 l0_1 x28_2).f1)).bind fun t151 => (network_New.l1 k2 l0_1 (l0_1.length : Int) (wrap64 (x28_2 + 1)) x144000_1 (x144001_2.set (((rd_T42 l0_1 x28_2).f1) : Int).toNat t148) (x144002_2.set (((rd_T42 l0_1 x28_2).f0) : Int).toNat t151))) else (none)) else (none)) = some (r1, r2, r3) := H
                     have A36 := Aside0.mk A360
                     clear A360
                     obtain ⟨y149, hy149⟩ : ∃ y_ : List Int, y_ = (x144001_2.set (((rd_T42 l0_1 x28_2).f1) : Int).toNat t148) := ⟨_, rfl⟩
                     replace H : (if 0 ≤ ((rd_T42 l0_1 x28_2).f0) then (if ((rd_T42 l0_1 x28_2).f0) < (x144002_2.length : Int) then ((network_Set_With.f (rd x144002_2 ((rd_T42 l0_1 x28_2).f0)) ((rd_T42 l0_1 x28_2).f1)).bind fun t151 => (network_New.l1 k2 l0_1 (l0_1.length : Int) (wrap64 (x28_2 + 1)) x144000_1 y149 (x144002_2.set (((rd_T42 l0_1 x28_2).f0) : Int).toNat t151))) else (none)) else (none)) = some (r1, r2, r3) := by first | (rw [hy149]; with_reducible exact H) | (have H2_ := (Option.bind_some _ _).symm.trans H; rw [hy149]; with_reducible exact H2_) | (have H2_ := (Option.bind_some _ _).symm.trans H; with_reducible exact H2_) | with_reducible exact H | (rw [hy149]; exact H) | exact H
                     have Ny149 := Aside0.mk hy149
                     clear hy149
                     by_cases c38 : 0 ≤ ((rd_T42 l0_1 x28_2).f0)
                     · rw [if_pos c38] at H
                       have c38b0 : decide (0 ≤ ((rd_T42 l0_1 x28_2).f0)) = true := decide_eq_true c38
                       clear c38
                       by_cases c39 : ((rd_T42 l0_1 x28_2).f0) < (x144002_2.length : Int)
                       · rw [if_pos c39] at H
                         have c39b0 : decide (((rd_T42 l0_1 x28_2).f0) < (x144002_2.length : Int)) = true := decide_eq_true c39
                         clear c39
                         replace H := Option.bind_eq_some_iff.mp H
                         obtain ⟨t151, A400, H⟩ := H
                         replace H : (network_New.l1 k2 l0_1 (l0_1.length : Int) (wrap64 (x28_2 + 1)) x144000_1 y149 (x144002_2.set (((rd_T42 l0_1 x28_2).f0) : Int).toNat t151)) = some (r1, r2, r3) := H
                         have A40 := Aside0.mk A400
                         clear A400
                         obtain ⟨y152, hy152⟩ : ∃ y_ : List Int, y_ = (x144002_2.set (((rd_T42 l0_1 x28_2).f0) : Int).toNat t151) := ⟨_, rfl⟩
                         replace H : (network_New.l1 k2 l0_1 (l0_1.length : Int) (wrap64 (x28_2 + 1)) x144000_1 y149 y152) = some (r1, r2, r3) := by first | (rw [hy152]; with_reducible exact H) | (have H2_ := (Option.bind_some _ _).symm.trans H; rw [hy152]; with_reducible exact H2_) | (have H2_ := (Option.bind_some _ _).symm.trans H; with_reducible exact H2_) | with_reducible exact H | (rw [hy152]; exact H) | exact H
                         have Ny152 := Aside0.mk hy152
                         clear hy152
                         have H' := Aside0.mk H
                         clear H
                         have p145 : 0 ≤ (x28_2 : Int) := of_decide_eq_true (by first | (with_reducible assumption) | assumption)
                         have q145 : x28_2 < (l0_1.length : Int) := of_decide_eq_true (by first | (with_reducible assumption) | assumption)
                         obtain ⟨ad145, e145, hx145_0, hx145_1⟩ := at_T42 HR0_1.out x28_2 p145 q145
                         cases e145
                         replace hx145_0 := (HB.out.cell (World.block_lt_of_cell? w _ hx145_0)).trans hx145_0
                         replace hx145_1 := (HB.out.cell (World.block_lt_of_cell? w _ hx145_1)).trans hx145_1
                         replace p145 := eq_true p145
                         replace q145 := eq_true q145
                         try go_wp2_with (first | ((with_reducible refine gate_dst (N := 6) rfl ?_); refine box_event ?hg (N := 6) ?hd (cs := #[.int .i64 0, .int .i64 0]) (t := 42) ?hr ?_; (case hd => rfl); (case hg => rfl); (case hr => first | (go_simp; done) | (go_simp; rfl)); intro gb146 hg w42 hbox hb; have n0_ := Aside0.mk (Kd.R_below (zR HO_144001) hb); have n1_ := Aside0.mk (Kd.R_below (zR HO_144002) hb); have n2_ := Aside0.mk (blk_below (g := gb135) (o := .cells #[.int .i64 a0_0, .slice (some ad145) l0_1.length c0_1] 24 (0, 0)) (zK BK135) hb); have n3_ := Aside0.mk (blk_below (g := gb136) (o := .cells #[.int .u64 0, .slice none 0 0, .slice none 0 0] 80 (0, 0)) (zK BK136) hb); have n4_ := Aside0.mk (blk_below (g := gb143) (o := .cells #[.int .u64 x144000_1, u144001, u144002] 80 (0, 0)) (zK BK143) hb); have n5_ := Aside0.mk (below_step (zB HB) hb); have n6_ := Aside0.mk (hbox); have n7_ := Aside0.mk ((by rw [hg]; exact (below_size (zB HB)) : w.heap.size ≤ gb146)); have n8_ := Aside0.mk ((by rw [hg]; exact (below_size (zB HB)) : w.heap.size ≤ gb146)); have n9_ := Aside0.mk ((by rw [hg]; exact Nat.ne_of_lt (blk_lt (g := gb135) (o := .cells #[.int .i64 a0_0, .slice (some ad145) l0_1.length c0_1] 24 (0, 0)) (zK BK135)) : gb135 ≠ gb146)); have n10_ := Aside0.mk ((by rw [hg]; exact Nat.ne_of_gt (blk_lt (g := gb135) (o := .cells #[.int .i64 a0_0, .slice (some ad145) l0_1.length c0_1] 24 (0, 0)) (zK BK135)) : gb146 ≠ gb135)); have n11_ := Aside0.mk ((by rw [hg]; exact Nat.ne_of_lt (blk_lt (g := gb136) (o := .cells #[.int .u64 0, .slice none 0 0, .slice none 0 0] 80 (0, 0)) (zK BK136)) : gb136 ≠ gb146)); have n12_ := Aside0.mk ((by rw [hg]; exact Nat.ne_of_gt (blk_lt (g := gb136) (o := .cells #[.int .u64 0, .slice none 0 0, .slice none 0 0] 80 (0, 0)) (zK BK136)) : gb146 ≠ gb136)); have n13_ := Aside0.mk ((by rw [hg]; exact Nat.ne_of_lt (blk_lt (g := gb143) (o := .cells #[.int .u64 x144000_1, u144001, u144002] 80 (0, 0)) (zK BK143)) : gb143 ≠ gb146)); have n14_ := Aside0.mk ((by rw [hg]; exact Nat.ne_of_gt (blk_lt (g := gb143) (o := .cells #[.int .u64 x144000_1, u144001, u144002] 80 (0, 0)) (zK BK143)) : gb146 ≠ gb143)); clear HO_144001; clear HO_144002; clear BK135; clear BK136; clear BK143; clear HB; have HO_144001 := n0_; have HO_144002 := n1_; have BK135 := n2_; have BK136 := n3_; have BK143 := n4_; have HB := n5_; have BK146 := n6_; have GW146 := n7_; have GE146 := n8_; have NB135_146 := n9_; have NB146_135 := n10_; have NB136_146 := n11_; have NB146_136 := n12_; have NB143_146 := n13_; have NB146_143 := n14_; clear n0_ n1_ n2_ n3_ n4_ n5_ n6_ n7_ n8_ n9_ n10_ n11_ n12_ n13_ n14_; clear hb hbox hg; have hnb43 := NB146_135.out; have hnc43 := NB135_146.out; have hnb44 := NB146_136.out; have hnc44 := NB136_146.out; have hnb45 := NB146_143.out; have hnc45 := NB143_146.out; have hcz46_0 : w42.cell? ⟨gb146, 0, none⟩ = some (.int .i64 0) := (blk_cell BK146.out 0).trans rfl; have hcz46_1 : w42.cell? ⟨gb146, 1, none⟩ = some (.int .i64 0) := (blk_cell BK146.out 1).trans rfl; have hfz46_0 := blk_frozen BK146.out 0; have hfz46_1 := blk_frozen BK146.out 1))
                         have n0_ : Aside0 (Kd.R (Kd.int .u64) 76 ((w42.setCell ⟨gb146, 0, none⟩ (.int .i64 ((rd_T42 l0_1 x28_2).f0))).setCell ⟨gb146, 1, none⟩ (.int .i64 ((rd_T42 l0_1 x28_2).f1))) w.heap.size (fun k_ => some k_ ≠ (u144002 : Value).ownBlock) u144001 x144001_2) := ⟨by (with_reducible repeat (first | apply Kd.R_alloc | apply Kd.R_drewN | apply Kd.R_drew)); exact Kd.R_mono (Kd.R_far (p := ⟨gb146, 1, none⟩) (Kd.R_far (p := ⟨gb146, 0, none⟩) (Kd.R_types HO_144001.out BK146.out (by decide)) (fun _ hk => hk.2) (.int .i64 ((rd_T42 l0_1 x28_2).f0))) (fun _ hk => hk.2) (.int .i64 ((rd_T42 l0_1 x28_2).f1))) (fun _ hk => hk.1)⟩
                         have n1_ : Aside0 (Kd.R (Kd.int .u64) 76 ((w42.setCell ⟨gb146, 0, none⟩ (.int .i64 ((rd_T42 l0_1 x28_2).f0))).setCell ⟨gb146, 1, none⟩ (.int .i64 ((rd_T42 l0_1 x28_2).f1))) w.heap.size (fun k_ => some k_ ≠ (u144001 : Value).ownBlock) u144002 x144002_2) := ⟨by (with_reducible repeat (first | apply Kd.R_alloc | apply Kd.R_drewN | apply Kd.R_drew)); exact Kd.R_mono (Kd.R_far (p := ⟨gb146, 1, none⟩) (Kd.R_far (p := ⟨gb146, 0, none⟩) (Kd.R_types HO_144002.out BK146.out (by decide)) (fun _ hk => hk.2) (.int .i64 ((rd_T42 l0_1 x28_2).f0))) (fun _ hk => hk.2) (.int .i64 ((rd_T42 l0_1 x28_2).f1))) (fun _ hk => hk.1)⟩
                         have n2_ : Aside0 (((w42.setCell ⟨gb146, 0, none⟩ (.int .i64 ((rd_T42 l0_1 x28_2).f0))).setCell ⟨gb146, 1, none⟩ (.int .i64 ((rd_T42 l0_1 x28_2).f1))).heap[gb135]? = some (.cells #[.int .i64 a0_0, .slice (some ad145) l0_1.length c0_1] 24 (0, 0))) := ⟨by (with_reducible repeat (first | refine blk_drewN ?_ _ | refine blk_drew ?_ | refine blk_alloc ?_ _)); refine blk_far ?_ NB135_146.out _; (with_reducible repeat (first | refine blk_drewN ?_ _ | refine blk_drew ?_ | refine blk_alloc ?_ _)); refine blk_far ?_ NB135_146.out _; (with_reducible repeat (first | refine blk_drewN ?_ _ | refine blk_drew ?_ | refine blk_alloc ?_ _)); exact BK135.out⟩
                         have n3_ : Aside0 (((w42.setCell ⟨gb146, 0, none⟩ (.int .i64 ((rd_T42 l0_1 x28_2).f0))).setCell ⟨gb146, 1, none⟩ (.int .i64 ((rd_T42 l0_1 x28_2).f1))).heap[gb136]? = some (.cells #[.int .u64 0, .slice none 0 0, .slice none 0 0] 80 (0, 0))) := ⟨by (with_reducible repeat (first | refine blk_drewN ?_ _ | refine blk_drew ?_ | refine blk_alloc ?_ _)); refine blk_far ?_ NB136_146.out _; (with_reducible repeat (first | refine blk_drewN ?_ _ | refine blk_drew ?_ | refine blk_alloc ?_ _)); refine blk_far ?_ NB136_146.out _; (with_reducible repeat (first | refine blk_drewN ?_ _ | refine blk_drew ?_ | refine blk_alloc ?_ _)); exact BK136.out⟩
                         have n4_ : Aside0 (((w42.setCell ⟨gb146, 0, none⟩ (.int .i64 ((rd_T42 l0_1 x28_2).f0))).setCell ⟨gb146, 1, none⟩ (.int .i64 ((rd_T42 l0_1 x28_2).f1))).heap[gb143]? = some (.cells #[.int .u64 x144000_1, u144001, u144002] 80 (0, 0))) := ⟨by (with_reducible repeat (first | refine blk_drewN ?_ _ | refine blk_drew ?_ | refine blk_alloc ?_ _)); refine blk_far ?_ NB143_146.out _; (with_reducible repeat (first | refine blk_drewN ?_ _ | refine blk_drew ?_ | refine blk_alloc ?_ _)); refine blk_far ?_ NB143_146.out _; (with_reducible repeat (first | refine blk_drewN ?_ _ | refine blk_drew ?_ | refine blk_alloc ?_ _)); exact BK143.out⟩
                         have n5_ : Aside0 (((w42.setCell ⟨gb146, 0, none⟩ (.int .i64 ((rd_T42 l0_1 x28_2).f0))).setCell ⟨gb146, 1, none⟩ (.int .i64 ((rd_T42 l0_1 x28_2).f1))).heap[gb146]? = some (.cells #[.int .i64 ((rd_T42 l0_1 x28_2).f0), .int .i64 ((rd_T42 l0_1 x28_2).f1)] 42 (0, 0))) := ⟨by (with_reducible repeat (first | refine blk_drewN ?_ _ | refine blk_drew ?_ | refine blk_alloc ?_ _)); refine blk_put (cs := #[.int .i64 ((rd_T42 l0_1 x28_2).f0), .int .i64 0]) ?_ 1 _ rfl; (with_reducible repeat (first | refine blk_drewN ?_ _ | refine blk_drew ?_ | refine blk_alloc ?_ _)); refine blk_put (cs := #[.int .i64 0, .int .i64 0]) ?_ 0 _ rfl; (with_reducible repeat (first | refine blk_drewN ?_ _ | refine blk_drew ?_ | refine blk_alloc ?_ _)); exact BK146.out⟩
                         have n6_ : Aside0 (Below w.heap.size w ((w42.setCell ⟨gb146, 0, none⟩ (.int .i64 ((rd_T42 l0_1 x28_2).f0))).setCell ⟨gb146, 1, none⟩ (.int .i64 ((rd_T42 l0_1 x28_2).f1)))) := ⟨zB HB⟩
                         (try clear HO_144001)
                         (try clear HO_144002)
                         (try clear BK135)
                         (try clear BK136)
                         (try clear BK143)
                         (try clear BK146)
                         (try clear HB)
                         (try rw [show ∀ (W_ : World) (n_ : Nat) (a_ : Addr) (v_ : Value), (W_.drewN n_).setCell a_ v_ = (W_.setCell a_ v_).drewN n_ from fun _ _ _ _ => rfl])
                         generalize ((w42.setCell ⟨gb146, 0, none⟩ (.int .i64 ((rd_T42 l0_1 x28_2).f0))).setCell ⟨gb146, 1, none⟩ (.int .i64 ((rd_T42 l0_1 x28_2).f1))) = w47 at n0_ n1_ n2_ n3_ n4_ n5_ n6_ ⊢
                         have HO_144001 := n0_
                         have HO_144002 := n1_
                         have BK135 := n2_
                         have BK136 := n3_
                         have BK143 := n4_
                         have BK146 := n5_
                         have HB := n6_
                         clear n0_ n1_ n2_ n3_ n4_ n5_ n6_
                         have n0_ := Aside0.mk (Kd.R_drew HO_144001.out)
                         have n1_ := Aside0.mk (Kd.R_drew HO_144002.out)
                         have n2_ := Aside0.mk (blk_drew BK135.out)
                         have n3_ := Aside0.mk (blk_drew BK136.out)
                         have n4_ := Aside0.mk (blk_drew BK143.out)
                         have n5_ := Aside0.mk (blk_drew BK146.out)
                         have n6_ := Aside0.mk (below_drew1 HB.out)
                         clear HO_144001
                         clear HO_144002
                         clear BK135
                         clear BK136
                         clear BK143
                         clear BK146
                         clear HB
                         have HO_144001 := n0_
                         have HO_144002 := n1_
                         have BK135 := n2_
                         have BK136 := n3_
                         have BK143 := n4_
                         have BK146 := n5_
                         have HB := n6_
                         clear n0_ n1_ n2_ n3_ n4_ n5_ n6_
                         obtain ⟨Ao49, co49, eo49⟩ := Kd.R_slice HO_144001.out
                         (first | subst eo49 | (injection eo49 with f1_ f2_ f3_; have f4_ := f1_.symm; have f5_ := f3_.symm; clear f1_ f2_ f3_; subst f4_; subst f5_))
                         have p147 : 0 ≤ (((rd_T42 l0_1 x28_2).f1) : Int) := of_decide_eq_true (by first | (with_reducible assumption) | assumption)
                         have q147 : ((rd_T42 l0_1 x28_2).f1) < (x144001_2.length : Int) := of_decide_eq_true (by first | (with_reducible assumption) | assumption)
                         obtain ⟨ad147, e147, hx147_0⟩ := Kd.at_int (Kd.R_reads' HO_144001.out).2.2 ((rd_T42 l0_1 x28_2).f1) p147 q147
                         cases e147
                         replace p147 := eq_true p147
                         replace q147 := eq_true q147
                         refine start_ (n := 15) (S := fun w' => w'.cell? ⟨gb143, 0, none⟩ = some (.int .u64 x144000_1) ∧ w'.cell? ⟨gb143, 1, none⟩ = some (.slice (some ad147) x144001_2.length co49) ∧ w'.cell? ⟨gb143, 2, none⟩ = some (u144002) ∧ w'.cell? ⟨gb146, 0, none⟩ = some (.int .i64 ((rd_T42 l0_1 x28_2).f0)) ∧ w'.cell? ⟨gb146, 1, none⟩ = some (.int .i64 ((rd_T42 l0_1 x28_2).f1)) ∧ w'.cell? (ad147.add (((rd_T42 l0_1 x28_2).f1)).toNat) = some (.int .u64 (rd x144001_2 ((rd_T42 l0_1 x28_2).f1)))) (ds := [14]) #[false, false, false, false, false, false, false, false, false, false, false, false, false, false, false] (by kernel_rfl) rfl rfl ⟨(blk_cell BK143.out 0).trans rfl, (blk_cell BK143.out 1).trans rfl, (blk_cell BK143.out 2).trans rfl, (blk_cell BK146.out 0).trans rfl, (blk_cell BK146.out 1).trans rfl, hx147_0⟩ (fun hHeld => ?_); refine with_tabW network_New.tab10 network_New.bits10 (fun HT_ HW_ => ?_)
                         generalize w47.drew = w48 at HO_144001 HO_144002 BK135 BK136 BK143 BK146 HB hx147_0 hHeld ⊢
                         refine pure_ (i := 0) (N := some 32) (v := ?_) (a' := ?_) #[true, false, false, false, false, false, false, false, false, false, false, false, false, false, false] rfl rfl (any_of HT_.out (by kernel_rfl)) (fun _ _ _ h => h) (Or.inl ⟨by rfl, ?_⟩) ?_ ?_
                         rotate_left
                         · intro w'
                           go_simp
                           with_reducible rfl
                         rotate_left
                         · simp only [Act.put, List.setIfInBounds_toArray, List.set_cons_zero, List.set_cons_succ, i64_w, i32_w]
                           rfl
                         refine pure_ (i := 2) (N := some 34) (v := ?_) (a' := ?_) #[true, false, true, false, false, false, false, false, false, false, false, false, false, false, false] rfl rfl (any_of HT_.out (by kernel_rfl)) (fun _ _ _ h => h) (Or.inl ⟨by rfl, ?_⟩) ?_ ?_
                         rotate_left
                         · intro w'
                           go_simp
                           with_reducible rfl
                         rotate_left
                         · simp only [Act.put, List.setIfInBounds_toArray, List.set_cons_zero, List.set_cons_succ, i64_w, i32_w]
                           rfl
                         refine pure_ (i := 4) (N := some 36) (v := ?_) (a' := ?_) #[true, false, true, false, true, false, false, false, false, false, false, false, false, false, false] rfl rfl (any_of HT_.out (by kernel_rfl)) (fun _ _ _ h => h) (Or.inl ⟨by rfl, ?_⟩) ?_ ?_
                         rotate_left
                         · intro w'
                           go_simp
                           with_reducible rfl
                         rotate_left
                         · simp only [Act.put, List.setIfInBounds_toArray, List.set_cons_zero, List.set_cons_succ, i64_w, i32_w]
                           rfl
                         refine pure_ (i := 6) (N := some 38) (v := ?_) (a' := ?_) #[true, false, true, false, true, false, true, false, false, false, false, false, false, false, false] rfl rfl (any_of HT_.out (by kernel_rfl)) (fun _ _ _ h => h) (Or.inl ⟨by rfl, ?_⟩) ?_ ?_
                         rotate_left
                         · intro w'
                           go_simp
                           with_reducible rfl
                         rotate_left
                         · simp only [Act.put, List.setIfInBounds_toArray, List.set_cons_zero, List.set_cons_succ, i64_w, i32_w]
                           rfl
                         refine pure_ (i := 10) (N := some 42) (v := ?_) (a' := ?_) #[true, false, true, false, true, false, true, false, false, false, true, false, false, false, false] rfl rfl (any_of HT_.out (by kernel_rfl)) (fun _ _ _ h => h) (Or.inl ⟨by rfl, ?_⟩) ?_ ?_
                         rotate_left
                         · intro w'
                           go_simp
                           with_reducible rfl
                         rotate_left
                         · simp only [Act.put, List.setIfInBounds_toArray, List.set_cons_zero, List.set_cons_succ, i64_w, i32_w]
                           rfl
                         refine take_ (i := 1) (N := some 33) (v := ?_) (a' := ?_) #[true, true, true, false, true, false, true, false, false, false, true, false, false, false, false] rfl rfl (take_ofW HT_.out HW_.out (by kernel_rfl)) (fun _ _ _ h => h) (Or.inl ⟨by rfl, ?_⟩) hHeld ?_ ?_
                         rotate_left
                         · rintro w' ⟨s0, s1, s2, s3, s4, s5⟩
                           go_simp
                           with_reducible rfl
                         rotate_left
                         · simp only [Act.put, List.setIfInBounds_toArray, List.set_cons_zero, List.set_cons_succ, i64_w, i32_w]
                           rfl
                         refine take_ (i := 3) (N := some 35) (v := ?_) (a' := ?_) #[true, true, true, true, true, false, true, false, false, false, true, false, false, false, false] rfl rfl (take_ofW HT_.out HW_.out (by kernel_rfl)) (fun _ _ _ h => h) (Or.inl ⟨by rfl, ?_⟩) hHeld ?_ ?_
                         rotate_left
                         · rintro w' ⟨s0, s1, s2, s3, s4, s5⟩
                           go_simp
                           with_reducible rfl
                         rotate_left
                         · simp only [Act.put, List.setIfInBounds_toArray, List.set_cons_zero, List.set_cons_succ, i64_w, i32_w]
                           rfl
                         refine take_ (i := 5) (N := some 37) (v := ?_) (a' := ?_) #[true, true, true, true, true, true, true, false, false, false, true, false, false, false, false] rfl rfl (take_ofW HT_.out HW_.out (by kernel_rfl)) (fun _ _ _ h => h) (Or.inl ⟨by rfl, ?_⟩) hHeld ?_ ?_
                         rotate_left
                         · rintro w' ⟨s0, s1, s2, s3, s4, s5⟩
                           go_simp
                           with_reducible rfl
                         rotate_left
                         · simp only [Act.put, List.setIfInBounds_toArray, List.set_cons_zero, List.set_cons_succ, i64_w, i32_w]
                           rfl
                         refine take_ (i := 7) (N := some 39) (v := ?_) (a' := ?_) #[true, true, true, true, true, true, true, true, false, false, true, false, false, false, false] rfl rfl (take_ofW HT_.out HW_.out (by kernel_rfl)) (fun _ _ _ h => h) (Or.inl ⟨by rfl, ?_⟩) hHeld ?_ ?_
                         rotate_left
                         · rintro w' ⟨s0, s1, s2, s3, s4, s5⟩
                           go_simp
                           with_reducible rfl
                         rotate_left
                         · simp only [Act.put, List.setIfInBounds_toArray, List.set_cons_zero, List.set_cons_succ, i64_w, i32_w]
                           rfl
                         refine pure_ (i := 8) (N := some 40) (v := ?_) (a' := ?_) #[true, true, true, true, true, true, true, true, true, false, true, false, false, false, false] rfl rfl (any_of HT_.out (by kernel_rfl)) (fun _ _ _ h => h) (Or.inl ⟨by rfl, ?_⟩) ?_ ?_
                         rotate_left
                         · intro w'
                           go_simp
                           with_reducible rfl
                         rotate_left
                         · simp only [Act.put, List.setIfInBounds_toArray, List.set_cons_zero, List.set_cons_succ, i64_w, i32_w]
                           rfl
                         refine take_ (i := 9) (N := some 41) (v := ?_) (a' := ?_) #[true, true, true, true, true, true, true, true, true, true, true, false, false, false, false] rfl rfl (take_ofW HT_.out HW_.out (by kernel_rfl)) (fun _ _ _ h => h) (Or.inl ⟨by rfl, ?_⟩) hHeld ?_ ?_
                         rotate_left
                         · rintro w' ⟨s0, s1, s2, s3, s4, s5⟩
                           go_simp
                           with_reducible rfl
                         rotate_left
                         · simp only [Act.put, List.setIfInBounds_toArray, List.set_cons_zero, List.set_cons_succ, i64_w, i32_w]
                           rfl
                         refine take_ (i := 11) (N := some 43) (v := ?_) (a' := ?_) #[true, true, true, true, true, true, true, true, true, true, true, true, false, false, false] rfl rfl (take_ofW HT_.out HW_.out (by kernel_rfl)) (fun _ _ _ h => h) (Or.inl ⟨by rfl, ?_⟩) hHeld ?_ ?_
                         rotate_left
                         · rintro w' ⟨s0, s1, s2, s3, s4, s5⟩
                           go_simp
                           with_reducible rfl
                         rotate_left
                         · simp only [Act.put, List.setIfInBounds_toArray, List.set_cons_zero, List.set_cons_succ, i64_w, i32_w]
                           rfl
                         refine one_ (i := 12) (N := some 44) #[true, true, true, true, true, true, true, true, true, true, true, true, true, false, false] rfl rfl (one_of HT_.out (by kernel_rfl)) (by decide) (fun K hK => ?_)
                         refine goes_ Tryd.func51 (by kernel_rfl) rfl #[.int .u64 (rd x144001_2 ((rd_T42 l0_1 x28_2).f1)), .int .i64 ((rd_T42 l0_1 x28_2).f0)] (by rfl) rfl rfl (by (try simp only [List.map_toArray, List.map_cons, List.map_nil]); first | done | rfl | (simp only [List.length_drop, List.length_take]; rfl)) ?_
                         with_reducible refine (network_Set_With.calls (rd x144001_2 ((rd_T42 l0_1 x28_2).f1)) ((rd_T42 l0_1 x28_2).f0) t148 _ A36.out).mono ?_
                         rintro e w' ⟨rfl, ⟨nd, rfl⟩⟩
                         refine ⟨_, rfl, ?_⟩
                         have p37 : 0 ≤ (((rd_T42 l0_1 x28_2).f1) : Int) := of_decide_eq_true (by first | (with_reducible assumption) | assumption)
                         have q37 : (((rd_T42 l0_1 x28_2).f1) : Int) < ((x144001_2.length : Int) : Int) := of_decide_eq_true (by first | (with_reducible assumption) | assumption)
                         obtain ⟨go37, co37, eo37, gb37, gl37, cl37, HG37⟩ := Kd.R_form HO_144001.out (by omega)
                         (first | cases eo37 | (injection eo37 with ea_ en_ ec_; (first | subst ea_ | (injection ea_ with ea_; subst ea_)); subst ec_; clear en_))
                         have GB37 := Aside0.mk gb37
                         have GG37 := Aside0.mk HG37
                         clear gb37 gl37 HG37
                         (first | simp only [add_plain] at hx147_0 | skip)
                         obtain ⟨hx37_0, hf37_0⟩ := Kd.R_celln 0 HO_144001.out (((rd_T42 l0_1 x28_2).f1) : Int) p37 q37
                         replace p37 := eq_true p37
                         replace q37 := eq_true q37
                         have HP50 := Kd.R_putn HO_144001.out (((rd_T42 l0_1 x28_2).f1) : Int) t148
                         rw [← Ny149.out] at HP50
                         have HQ50 := Aside0.mk HP50
                         clear HP50
                         refine hK.out _ _ ⟨(blk_cell BK143.out 0).trans rfl, (blk_cell BK143.out 1).trans rfl, (blk_cell BK143.out 2).trans rfl, (blk_cell BK146.out 0).trans rfl, (blk_cell BK146.out 1).trans rfl, hHeld.2.2.2.2.2⟩ (fun hHeld => ?_)
                         clear hK K
                         refine norm_ (a' := ?_) ?_ ?_
                         rotate_left
                         · show Act.put _ (some 44) _ = _
                           simp only [Act.put, List.setIfInBounds_toArray, List.set_cons_zero, List.set_cons_succ, i64_w, i32_w]
                           rfl
                         refine pure_ (i := 13) (N := some 45) (v := ?_) (a' := ?_) #[true, true, true, true, true, true, true, true, true, true, true, true, true, true, false] rfl rfl (any_of HT_.out (by kernel_rfl)) (fun _ _ _ h => h) (Or.inl ⟨by rfl, ?_⟩) ?_ ?_
                         rotate_left
                         · intro w'
                           go_simp
                           with_reducible rfl
                         rotate_left
                         · simp only [Act.put, List.setIfInBounds_toArray, List.set_cons_zero, List.set_cons_succ, i64_w, i32_w]
                           rfl
                         refine last_ (i := 14) (N := none) #[true, true, true, true, true, true, true, true, true, true, true, true, true, true, true] rfl rfl (one_of HT_.out (by kernel_rfl)) (by decide) (fun K hK => ?_)
                         refine skip_ (w1 := ?_) (by rfl) rfl ?_ ?_
                         rotate_left
                         · go_simp
                           rfl
                         refine hK.out _ _ ?_
                         clear hK K
                         refine done_ (done_of HT_.out (by kernel_rfl)) ?_
                         try go_wp2
                         have n0_ : Aside0 (Kd.R (Kd.int .u64) 76 (w48.setCell ⟨go37, (((rd_T42 l0_1 x28_2).f1) : Int).toNat, none⟩ (.int .u64 t148)) w.heap.size (fun k_ => some k_ ≠ (u144002 : Value).ownBlock) (.slice (some ⟨go37, 0, none⟩) x144001_2.length co49) y149) := ⟨zR HQ50⟩
                         have n1_ : Aside0 (Kd.R (Kd.int .u64) 76 (w48.setCell ⟨go37, (((rd_T42 l0_1 x28_2).f1) : Int).toNat, none⟩ (.int .u64 t148)) w.heap.size (fun k_ => some k_ ≠ (.slice (some ⟨go37, 0, none⟩) x144001_2.length co49 : Value).ownBlock) u144002 x144002_2) := ⟨by (with_reducible repeat (first | apply Kd.R_alloc | apply Kd.R_drewN | apply Kd.R_drew)); exact Kd.R_mono (Kd.R_far (p := ⟨go37, (((rd_T42 l0_1 x28_2).f1) : Int).toNat, none⟩) (Kd.R_mono HO_144002.out (fun k_ hk => (⟨hk, fun e_ => hk (by rw [e_]; rfl)⟩ : _ ∧ k_ ≠ go37))) (fun _ hk => hk.2) (.int .u64 t148)) (fun _ hk => hk.1)⟩
                         have n2_ : Aside0 ((w48.setCell ⟨go37, (((rd_T42 l0_1 x28_2).f1) : Int).toNat, none⟩ (.int .u64 t148)).heap[gb135]? = some (.cells #[.int .i64 a0_0, .slice (some ad145) l0_1.length c0_1] 24 (0, 0))) := ⟨by (with_reducible repeat (first | refine blk_drewN ?_ _ | refine blk_drew ?_ | refine blk_alloc ?_ _)); refine blk_far ?_ (by have h_ := Kd.R_ne HO_144001.out BK135.out (by decide); intro e_; exact h_ (by rw [e_]; rfl)) _; (with_reducible repeat (first | refine blk_drewN ?_ _ | refine blk_drew ?_ | refine blk_alloc ?_ _)); exact BK135.out⟩
                         have n3_ : Aside0 ((w48.setCell ⟨go37, (((rd_T42 l0_1 x28_2).f1) : Int).toNat, none⟩ (.int .u64 t148)).heap[gb136]? = some (.cells #[.int .u64 0, .slice none 0 0, .slice none 0 0] 80 (0, 0))) := ⟨by (with_reducible repeat (first | refine blk_drewN ?_ _ | refine blk_drew ?_ | refine blk_alloc ?_ _)); refine blk_far ?_ (by have h_ := Kd.R_ne HO_144001.out BK136.out (by decide); intro e_; exact h_ (by rw [e_]; rfl)) _; (with_reducible repeat (first | refine blk_drewN ?_ _ | refine blk_drew ?_ | refine blk_alloc ?_ _)); exact BK136.out⟩
                         have n4_ : Aside0 ((w48.setCell ⟨go37, (((rd_T42 l0_1 x28_2).f1) : Int).toNat, none⟩ (.int .u64 t148)).heap[gb143]? = some (.cells #[.int .u64 x144000_1, .slice (some ⟨go37, 0, none⟩) x144001_2.length co49, u144002] 80 (0, 0))) := ⟨by (with_reducible repeat (first | refine blk_drewN ?_ _ | refine blk_drew ?_ | refine blk_alloc ?_ _)); refine blk_far ?_ (by have h_ := Kd.R_ne HO_144001.out BK143.out (by decide); intro e_; exact h_ (by rw [e_]; rfl)) _; (with_reducible repeat (first | refine blk_drewN ?_ _ | refine blk_drew ?_ | refine blk_alloc ?_ _)); exact BK143.out⟩
                         have n5_ : Aside0 ((w48.setCell ⟨go37, (((rd_T42 l0_1 x28_2).f1) : Int).toNat, none⟩ (.int .u64 t148)).heap[gb146]? = some (.cells #[.int .i64 ((rd_T42 l0_1 x28_2).f0), .int .i64 ((rd_T42 l0_1 x28_2).f1)] 42 (0, 0))) := ⟨by (with_reducible repeat (first | refine blk_drewN ?_ _ | refine blk_drew ?_ | refine blk_alloc ?_ _)); refine blk_far ?_ (by have h_ := Kd.R_ne HO_144001.out BK146.out (by decide); intro e_; exact h_ (by rw [e_]; rfl)) _; (with_reducible repeat (first | refine blk_drewN ?_ _ | refine blk_drew ?_ | refine blk_alloc ?_ _)); exact BK146.out⟩
                         have n6_ : Aside0 (Below w.heap.size w (w48.setCell ⟨go37, (((rd_T42 l0_1 x28_2).f1) : Int).toNat, none⟩ (.int .u64 t148))) := ⟨zB HB⟩
                         (try clear HO_144001)
                         (try clear HO_144002)
                         (try clear BK135)
                         (try clear BK136)
                         (try clear BK143)
                         (try clear BK146)
                         (try clear HB)
                         (try rw [show ∀ (W_ : World) (n_ : Nat) (a_ : Addr) (v_ : Value), (W_.drewN n_).setCell a_ v_ = (W_.setCell a_ v_).drewN n_ from fun _ _ _ _ => rfl])
                         generalize (w48.setCell ⟨go37, (((rd_T42 l0_1 x28_2).f1) : Int).toNat, none⟩ (.int .u64 t148)) = w51 at n0_ n1_ n2_ n3_ n4_ n5_ n6_ ⊢
                         have HO_144001 := n0_
                         have HO_144002 := n1_
                         have BK135 := n2_
                         have BK136 := n3_
                         have BK143 := n4_
                         have BK146 := n5_
                         have HB := n6_
                         clear n0_ n1_ n2_ n3_ n4_ n5_ n6_
                         (try (rw [drewN_self w51]; generalize hq_ : World.drewN w51 _ = w51; have n0_ : Aside0 (Kd.R (Kd.int .u64) 76 w51 w.heap.size (fun k_ => some k_ ≠ (u144002 : Value).ownBlock) (.slice (some ⟨go37, 0, none⟩) x144001_2.length co49) y149) := ⟨by rw [← hq_]; exact (zR HO_144001)⟩; have n1_ : Aside0 (Kd.R (Kd.int .u64) 76 w51 w.heap.size (fun k_ => some k_ ≠ (.slice (some ⟨go37, 0, none⟩) x144001_2.length co49 : Value).ownBlock) u144002 x144002_2) := ⟨by rw [← hq_]; exact (zR HO_144002)⟩; have n2_ : Aside0 (w51.heap[gb135]? = some (.cells #[.int .i64 a0_0, .slice (some ad145) l0_1.length c0_1] 24 (0, 0))) := ⟨by rw [← hq_]; exact (zK BK135)⟩; have n3_ : Aside0 (w51.heap[gb136]? = some (.cells #[.int .u64 0, .slice none 0 0, .slice none 0 0] 80 (0, 0))) := ⟨by rw [← hq_]; exact (zK BK136)⟩; have n4_ : Aside0 (w51.heap[gb143]? = some (.cells #[.int .u64 x144000_1, .slice (some ⟨go37, 0, none⟩) x144001_2.length co49, u144002] 80 (0, 0))) := ⟨by rw [← hq_]; exact (zK BK143)⟩; have n5_ : Aside0 (w51.heap[gb146]? = some (.cells #[.int .i64 ((rd_T42 l0_1 x28_2).f0), .int .i64 ((rd_T42 l0_1 x28_2).f1)] 42 (0, 0))) := ⟨by rw [← hq_]; exact (zK BK146)⟩; have n6_ : Aside0 (Below w.heap.size w w51) := ⟨by rw [← hq_]; exact (zB HB)⟩; clear HO_144001 HO_144002 BK135 BK136 BK143 BK146 HB hq_; have HO_144001 := n0_; have HO_144002 := n1_; have BK135 := n2_; have BK136 := n3_; have BK143 := n4_; have BK146 := n5_; have HB := n6_; clear n0_ n1_ n2_ n3_ n4_ n5_ n6_))
                         have n0_ := Aside0.mk (Kd.R_drew HO_144001.out)
                         have n1_ := Aside0.mk (Kd.R_drew HO_144002.out)
                         have n2_ := Aside0.mk (blk_drew BK135.out)
                         have n3_ := Aside0.mk (blk_drew BK136.out)
                         have n4_ := Aside0.mk (blk_drew BK143.out)
                         have n5_ := Aside0.mk (blk_drew BK146.out)
                         have n6_ := Aside0.mk (below_drew1 HB.out)
                         clear HO_144001
                         clear HO_144002
                         clear BK135
                         clear BK136
                         clear BK143
                         clear BK146
                         clear HB
                         have HO_144001 := n0_
                         have HO_144002 := n1_
                         have BK135 := n2_
                         have BK136 := n3_
                         have BK143 := n4_
                         have BK146 := n5_
                         have HB := n6_
                         clear n0_ n1_ n2_ n3_ n4_ n5_ n6_
                         obtain ⟨Ao53, co53, eo53⟩ := Kd.R_slice HO_144002.out
                         (first | subst eo53 | (injection eo53 with f1_ f2_ f3_; have f4_ := f1_.symm; have f5_ := f3_.symm; clear f1_ f2_ f3_; subst f4_; subst f5_))
                         have p150 : 0 ≤ (((rd_T42 l0_1 x28_2).f0) : Int) := of_decide_eq_true (by first | (with_reducible assumption) | assumption)
                         have q150 : ((rd_T42 l0_1 x28_2).f0) < (x144002_2.length : Int) := of_decide_eq_true (by first | (with_reducible assumption) | assumption)
                         obtain ⟨ad150, e150, hx150_0⟩ := Kd.at_int (Kd.R_reads' HO_144002.out).2.2 ((rd_T42 l0_1 x28_2).f0) p150 q150
                         cases e150
                         replace p150 := eq_true p150
                         replace q150 := eq_true q150
                         refine start_ (n := 15) (S := fun w' => w'.cell? ⟨gb143, 0, none⟩ = some (.int .u64 x144000_1) ∧ w'.cell? ⟨gb143, 1, none⟩ = some (.slice (some ⟨go37, 0, none⟩) x144001_2.length co49) ∧ w'.cell? ⟨gb143, 2, none⟩ = some (.slice (some ad150) x144002_2.length co53) ∧ w'.cell? ⟨gb146, 0, none⟩ = some (.int .i64 ((rd_T42 l0_1 x28_2).f0)) ∧ w'.cell? ⟨gb146, 1, none⟩ = some (.int .i64 ((rd_T42 l0_1 x28_2).f1)) ∧ w'.cell? (ad150.add (((rd_T42 l0_1 x28_2).f0)).toNat) = some (.int .u64 (rd x144002_2 ((rd_T42 l0_1 x28_2).f0)))) (ds := [14]) #[false, false, false, false, false, false, false, false, false, false, false, false, false, false, false] (by kernel_rfl) rfl rfl ⟨(blk_cell BK143.out 0).trans rfl, (blk_cell BK143.out 1).trans rfl, (blk_cell BK143.out 2).trans rfl, (blk_cell BK146.out 0).trans rfl, (blk_cell BK146.out 1).trans rfl, hx150_0⟩ (fun hHeld => ?_); refine with_tabW network_New.tab11 network_New.bits11 (fun HT_ HW_ => ?_)
                         generalize w51.drew = w52 at HO_144001 HO_144002 BK135 BK136 BK143 BK146 HB HQ50 hx150_0 hHeld ⊢
                         refine pure_ (i := 0) (N := some 46) (v := ?_) (a' := ?_) #[true, false, false, false, false, false, false, false, false, false, false, false, false, false, false] rfl rfl (any_of HT_.out (by kernel_rfl)) (fun _ _ _ h => h) (Or.inl ⟨by rfl, ?_⟩) ?_ ?_
                         rotate_left
                         · intro w'
                           go_simp
                           with_reducible rfl
                         rotate_left
                         · simp only [Act.put, List.setIfInBounds_toArray, List.set_cons_zero, List.set_cons_succ, i64_w, i32_w]
                           rfl
                         refine pure_ (i := 2) (N := some 48) (v := ?_) (a' := ?_) #[true, false, true, false, false, false, false, false, false, false, false, false, false, false, false] rfl rfl (any_of HT_.out (by kernel_rfl)) (fun _ _ _ h => h) (Or.inl ⟨by rfl, ?_⟩) ?_ ?_
                         rotate_left
                         · intro w'
                           go_simp
                           with_reducible rfl
                         rotate_left
                         · simp only [Act.put, List.setIfInBounds_toArray, List.set_cons_zero, List.set_cons_succ, i64_w, i32_w]
                           rfl
                         refine pure_ (i := 4) (N := some 50) (v := ?_) (a' := ?_) #[true, false, true, false, true, false, false, false, false, false, false, false, false, false, false] rfl rfl (any_of HT_.out (by kernel_rfl)) (fun _ _ _ h => h) (Or.inl ⟨by rfl, ?_⟩) ?_ ?_
                         rotate_left
                         · intro w'
                           go_simp
                           with_reducible rfl
                         rotate_left
                         · simp only [Act.put, List.setIfInBounds_toArray, List.set_cons_zero, List.set_cons_succ, i64_w, i32_w]
                           rfl
                         refine pure_ (i := 6) (N := some 52) (v := ?_) (a' := ?_) #[true, false, true, false, true, false, true, false, false, false, false, false, false, false, false] rfl rfl (any_of HT_.out (by kernel_rfl)) (fun _ _ _ h => h) (Or.inl ⟨by rfl, ?_⟩) ?_ ?_
                         rotate_left
                         · intro w'
                           go_simp
                           with_reducible rfl
                         rotate_left
                         · simp only [Act.put, List.setIfInBounds_toArray, List.set_cons_zero, List.set_cons_succ, i64_w, i32_w]
                           rfl
                         refine pure_ (i := 10) (N := some 56) (v := ?_) (a' := ?_) #[true, false, true, false, true, false, true, false, false, false, true, false, false, false, false] rfl rfl (any_of HT_.out (by kernel_rfl)) (fun _ _ _ h => h) (Or.inl ⟨by rfl, ?_⟩) ?_ ?_
                         rotate_left
                         · intro w'
                           go_simp
                           with_reducible rfl
                         rotate_left
                         · simp only [Act.put, List.setIfInBounds_toArray, List.set_cons_zero, List.set_cons_succ, i64_w, i32_w]
                           rfl
                         refine take_ (i := 1) (N := some 47) (v := ?_) (a' := ?_) #[true, true, true, false, true, false, true, false, false, false, true, false, false, false, false] rfl rfl (take_ofW HT_.out HW_.out (by kernel_rfl)) (fun _ _ _ h => h) (Or.inl ⟨by rfl, ?_⟩) hHeld ?_ ?_
                         rotate_left
                         · rintro w' ⟨s0, s1, s2, s3, s4, s5⟩
                           go_simp
                           with_reducible rfl
                         rotate_left
                         · simp only [Act.put, List.setIfInBounds_toArray, List.set_cons_zero, List.set_cons_succ, i64_w, i32_w]
                           rfl
                         refine take_ (i := 3) (N := some 49) (v := ?_) (a' := ?_) #[true, true, true, true, true, false, true, false, false, false, true, false, false, false, false] rfl rfl (take_ofW HT_.out HW_.out (by kernel_rfl)) (fun _ _ _ h => h) (Or.inl ⟨by rfl, ?_⟩) hHeld ?_ ?_
                         rotate_left
                         · rintro w' ⟨s0, s1, s2, s3, s4, s5⟩
                           go_simp
                           with_reducible rfl
                         rotate_left
                         · simp only [Act.put, List.setIfInBounds_toArray, List.set_cons_zero, List.set_cons_succ, i64_w, i32_w]
                           rfl
                         refine take_ (i := 5) (N := some 51) (v := ?_) (a' := ?_) #[true, true, true, true, true, true, true, false, false, false, true, false, false, false, false] rfl rfl (take_ofW HT_.out HW_.out (by kernel_rfl)) (fun _ _ _ h => h) (Or.inl ⟨by rfl, ?_⟩) hHeld ?_ ?_
                         rotate_left
                         · rintro w' ⟨s0, s1, s2, s3, s4, s5⟩
                           go_simp
                           with_reducible rfl
                         rotate_left
                         · simp only [Act.put, List.setIfInBounds_toArray, List.set_cons_zero, List.set_cons_succ, i64_w, i32_w]
                           rfl
                         refine take_ (i := 7) (N := some 53) (v := ?_) (a' := ?_) #[true, true, true, true, true, true, true, true, false, false, true, false, false, false, false] rfl rfl (take_ofW HT_.out HW_.out (by kernel_rfl)) (fun _ _ _ h => h) (Or.inl ⟨by rfl, ?_⟩) hHeld ?_ ?_
                         rotate_left
                         · rintro w' ⟨s0, s1, s2, s3, s4, s5⟩
                           go_simp
                           with_reducible rfl
                         rotate_left
                         · simp only [Act.put, List.setIfInBounds_toArray, List.set_cons_zero, List.set_cons_succ, i64_w, i32_w]
                           rfl
                         refine pure_ (i := 8) (N := some 54) (v := ?_) (a' := ?_) #[true, true, true, true, true, true, true, true, true, false, true, false, false, false, false] rfl rfl (any_of HT_.out (by kernel_rfl)) (fun _ _ _ h => h) (Or.inl ⟨by rfl, ?_⟩) ?_ ?_
                         rotate_left
                         · intro w'
                           go_simp
                           with_reducible rfl
                         rotate_left
                         · simp only [Act.put, List.setIfInBounds_toArray, List.set_cons_zero, List.set_cons_succ, i64_w, i32_w]
                           rfl
                         refine take_ (i := 9) (N := some 55) (v := ?_) (a' := ?_) #[true, true, true, true, true, true, true, true, true, true, true, false, false, false, false] rfl rfl (take_ofW HT_.out HW_.out (by kernel_rfl)) (fun _ _ _ h => h) (Or.inl ⟨by rfl, ?_⟩) hHeld ?_ ?_
                         rotate_left
                         · rintro w' ⟨s0, s1, s2, s3, s4, s5⟩
                           go_simp
                           with_reducible rfl
                         rotate_left
                         · simp only [Act.put, List.setIfInBounds_toArray, List.set_cons_zero, List.set_cons_succ, i64_w, i32_w]
                           rfl
                         refine take_ (i := 11) (N := some 57) (v := ?_) (a' := ?_) #[true, true, true, true, true, true, true, true, true, true, true, true, false, false, false] rfl rfl (take_ofW HT_.out HW_.out (by kernel_rfl)) (fun _ _ _ h => h) (Or.inl ⟨by rfl, ?_⟩) hHeld ?_ ?_
                         rotate_left
                         · rintro w' ⟨s0, s1, s2, s3, s4, s5⟩
                           go_simp
                           with_reducible rfl
                         rotate_left
                         · simp only [Act.put, List.setIfInBounds_toArray, List.set_cons_zero, List.set_cons_succ, i64_w, i32_w]
                           rfl
                         refine one_ (i := 12) (N := some 58) #[true, true, true, true, true, true, true, true, true, true, true, true, true, false, false] rfl rfl (one_of HT_.out (by kernel_rfl)) (by decide) (fun K hK => ?_)
                         refine goes_ Tryd.func51 (by kernel_rfl) rfl #[.int .u64 (rd x144002_2 ((rd_T42 l0_1 x28_2).f0)), .int .i64 ((rd_T42 l0_1 x28_2).f1)] (by rfl) rfl rfl (by (try simp only [List.map_toArray, List.map_cons, List.map_nil]); first | done | rfl | (simp only [List.length_drop, List.length_take]; rfl)) ?_
                         with_reducible refine (network_Set_With.calls (rd x144002_2 ((rd_T42 l0_1 x28_2).f0)) ((rd_T42 l0_1 x28_2).f1) t151 _ A40.out).mono ?_
                         rintro e w' ⟨rfl, ⟨nd, rfl⟩⟩
                         refine ⟨_, rfl, ?_⟩
                         have p41 : 0 ≤ (((rd_T42 l0_1 x28_2).f0) : Int) := of_decide_eq_true (by first | (with_reducible assumption) | assumption)
                         have q41 : (((rd_T42 l0_1 x28_2).f0) : Int) < ((x144002_2.length : Int) : Int) := of_decide_eq_true (by first | (with_reducible assumption) | assumption)
                         obtain ⟨go41, co41, eo41, gb41, gl41, cl41, HG41⟩ := Kd.R_form HO_144002.out (by omega)
                         (first | cases eo41 | (injection eo41 with ea_ en_ ec_; (first | subst ea_ | (injection ea_ with ea_; subst ea_)); subst ec_; clear en_))
                         have GB41 := Aside0.mk gb41
                         have GG41 := Aside0.mk HG41
                         clear gb41 gl41 HG41
                         (first | simp only [add_plain] at hx150_0 | skip)
                         obtain ⟨hx41_0, hf41_0⟩ := Kd.R_celln 0 HO_144002.out (((rd_T42 l0_1 x28_2).f0) : Int) p41 q41
                         replace p41 := eq_true p41
                         replace q41 := eq_true q41
                         have HP54 := Kd.R_putn HO_144002.out (((rd_T42 l0_1 x28_2).f0) : Int) t151
                         rw [← Ny152.out] at HP54
                         have HQ54 := Aside0.mk HP54
                         clear HP54
                         refine hK.out _ _ ⟨(blk_cell BK143.out 0).trans rfl, (blk_cell BK143.out 1).trans rfl, (blk_cell BK143.out 2).trans rfl, (blk_cell BK146.out 0).trans rfl, (blk_cell BK146.out 1).trans rfl, hHeld.2.2.2.2.2⟩ (fun hHeld => ?_)
                         clear hK K
                         refine norm_ (a' := ?_) ?_ ?_
                         rotate_left
                         · show Act.put _ (some 58) _ = _
                           simp only [Act.put, List.setIfInBounds_toArray, List.set_cons_zero, List.set_cons_succ, i64_w, i32_w]
                           rfl
                         refine pure_ (i := 13) (N := some 59) (v := ?_) (a' := ?_) #[true, true, true, true, true, true, true, true, true, true, true, true, true, true, false] rfl rfl (any_of HT_.out (by kernel_rfl)) (fun _ _ _ h => h) (Or.inl ⟨by rfl, ?_⟩) ?_ ?_
                         rotate_left
                         · intro w'
                           go_simp
                           with_reducible rfl
                         rotate_left
                         · simp only [Act.put, List.setIfInBounds_toArray, List.set_cons_zero, List.set_cons_succ, i64_w, i32_w]
                           rfl
                         refine last_ (i := 14) (N := none) #[true, true, true, true, true, true, true, true, true, true, true, true, true, true, true] rfl rfl (one_of HT_.out (by kernel_rfl)) (by decide) (fun K hK => ?_)
                         refine skip_ (w1 := ?_) (by rfl) rfl ?_ ?_
                         rotate_left
                         · go_simp
                           rfl
                         refine hK.out _ _ ?_
                         clear hK K
                         refine done_ (done_of HT_.out (by kernel_rfl)) ?_
                         try go_wp2
                         go_roundg k2
                         case measure => have := HK1.out; have := HK2.out; omega
                         case rel => exact ⟨(wrap64 (x28_2 + 1)), (y149), (y152), (.slice (some ⟨go37, 0, none⟩) x144001_2.length co49), (.slice (some ⟨go41, 0, none⟩) x144002_2.length co53), (by first | rfl | (simp; done) | (simp [*]; done)), H', ⟨by have := HK1.out; have := HK2.out; omega⟩, ⟨by (with_reducible repeat (first | apply Kd.R_alloc | apply Kd.R_drewN | apply Kd.R_drew)); exact Kd.R_mono (Kd.R_far (p := ⟨go41, (((rd_T42 l0_1 x28_2).f0) : Int).toNat, none⟩) (Kd.R_mono HO_144001.out (fun k_ hk => (⟨hk, fun e_ => hk (by rw [e_]; rfl)⟩ : _ ∧ k_ ≠ go41))) (fun _ hk => hk.2) (.int .u64 t151)) (fun _ hk => hk.1)⟩, ⟨zR HQ54⟩, ⟨by (with_reducible repeat (first | refine blk_drewN ?_ _ | refine blk_drew ?_ | refine blk_alloc ?_ _)); refine blk_far ?_ (by have h_ := Kd.R_ne HO_144002.out BK135.out (by decide); intro e_; exact h_ (by rw [e_]; rfl)) _; (with_reducible repeat (first | refine blk_drewN ?_ _ | refine blk_drew ?_ | refine blk_alloc ?_ _)); exact BK135.out⟩, ⟨by (with_reducible repeat (first | refine blk_drewN ?_ _ | refine blk_drew ?_ | refine blk_alloc ?_ _)); refine blk_far ?_ (by have h_ := Kd.R_ne HO_144002.out BK136.out (by decide); intro e_; exact h_ (by rw [e_]; rfl)) _; (with_reducible repeat (first | refine blk_drewN ?_ _ | refine blk_drew ?_ | refine blk_alloc ?_ _)); exact BK136.out⟩, ⟨by (with_reducible repeat (first | refine blk_drewN ?_ _ | refine blk_drew ?_ | refine blk_alloc ?_ _)); refine blk_far ?_ (by have h_ := Kd.R_ne HO_144002.out BK143.out (by decide); intro e_; exact h_ (by rw [e_]; rfl)) _; (with_reducible repeat (first | refine blk_drewN ?_ _ | refine blk_drew ?_ | refine blk_alloc ?_ _)); exact BK143.out⟩, ⟨zB HB⟩⟩
                       · rw [if_neg c39] at H
                         exact absurd H (by simp)
                     · rw [if_neg c38] at H
                       exact absurd H (by simp)
                   · rw [if_neg c35] at H
                     exact absurd H (by simp)
                 · rw [if_neg c34] at H
                   exact absurd H (by simp)
               · rw [if_neg c33] at H
                 exact absurd H (by simp)
             · rw [if_neg c32] at H
               exact absurd H (by simp)
           · rw [if_neg c31] at H
             have c31b0 : decide (x28_2 < (l0_1.length : Int)) = false := decide_eq_false c31
             clear c31
             simp only [Option.some.injEq, Prod.mk.injEq] at H
             obtain ⟨rfl, rfl, rfl⟩ := H
             have hnb55 := NB143_135.out
             have hnc55 := NB135_143.out
             have hnb56 := NB143_136.out
             have hnc56 := NB136_143.out
             have hcz57_0 : wr.cell? ⟨gb143, 0, none⟩ = some (.int .u64 x144000_1) := (blk_cell BK143.out 0).trans rfl
             have hcz57_1 : wr.cell? ⟨gb143, 1, none⟩ = some (u144001) := (blk_cell BK143.out 1).trans rfl
             have hcz57_2 : wr.cell? ⟨gb143, 2, none⟩ = some (u144002) := (blk_cell BK143.out 2).trans rfl
             have hfz57_0 := blk_frozen BK143.out 0
             have hfz57_1 := blk_frozen BK143.out 1
             have hfz57_2 := blk_frozen BK143.out 2
             have hnb58 := NB136_135.out
             have hnc58 := NB135_136.out
             have hcz59_0 : wr.cell? ⟨gb136, 0, none⟩ = some (.int .u64 0) := (blk_cell BK136.out 0).trans rfl
             have hcz59_1 : wr.cell? ⟨gb136, 1, none⟩ = some (.slice none 0 0) := (blk_cell BK136.out 1).trans rfl
             have hcz59_2 : wr.cell? ⟨gb136, 2, none⟩ = some (.slice none 0 0) := (blk_cell BK136.out 2).trans rfl
             have hfz59_0 := blk_frozen BK136.out 0
             have hfz59_1 := blk_frozen BK136.out 1
             have hfz59_2 := blk_frozen BK136.out 2
             obtain ⟨Ao60, co60, eo60⟩ := Kd.R_slice HO_144001.out
             subst eo60
             obtain ⟨Ao61, co61, eo61⟩ := Kd.R_slice HO_144002.out
             subst eo61
             go_wp2
             refine bodyPost_ret (results_cell_row rfl _ _ gb136 80 #[.int .u64 x144000_1, .slice Ao60 x144001_2.length co60, .slice Ao61 x144002_2.length co61] (0, 0) _ rfl (by (with_reducible repeat (first | refine blk_drewN ?_ _ | refine blk_drew ?_ | refine blk_alloc ?_ _)); refine blk_put (cs := #[.int .u64 x144000_1, .slice Ao60 x144001_2.length co60, .slice none 0 0]) ?_ 2 _ rfl; (with_reducible repeat (first | refine blk_drewN ?_ _ | refine blk_drew ?_ | refine blk_alloc ?_ _)); refine blk_put (cs := #[.int .u64 x144000_1, .slice none 0 0, .slice none 0 0]) ?_ 1 _ rfl; (with_reducible repeat (first | refine blk_drewN ?_ _ | refine blk_drew ?_ | refine blk_alloc ?_ _)); refine blk_put (cs := #[.int .u64 0, .slice none 0 0, .slice none 0 0]) ?_ 0 _ rfl; (with_reducible repeat (first | refine blk_drewN ?_ _ | refine blk_drew ?_ | refine blk_alloc ?_ _)); exact BK136.out) Tryd.underlying80 rfl (by kernel_rfl)) rfl ?_
             exact ⟨_, _, by first | rfl | (simp [errW_none, errW_some] <;> rfl) | (simp [*, errW_none, errW_some] <;> rfl), by (with_reducible repeat (first | apply Kd.R_alloc | apply Kd.R_drewN | apply Kd.R_drew)); exact Kd.R_mono (Kd.R_far (p := ⟨gb136, 2, none⟩) (Kd.R_far (p := ⟨gb136, 1, none⟩) (Kd.R_far (p := ⟨gb136, 0, none⟩) (Kd.R_types HO_144001.out BK136.out (by decide)) (fun _ hk => hk.2) (.int .u64 x144000_1)) (fun _ hk => hk.2) (.slice Ao60 x144001_2.length co60)) (fun _ hk => hk.2) (.slice Ao61 x144002_2.length co61)) (fun _ hk => hk.1), by (with_reducible repeat (first | apply Kd.R_alloc | apply Kd.R_drewN | apply Kd.R_drew)); exact Kd.R_mono (Kd.R_far (p := ⟨gb136, 2, none⟩) (Kd.R_far (p := ⟨gb136, 1, none⟩) (Kd.R_far (p := ⟨gb136, 0, none⟩) (Kd.R_types HO_144002.out BK136.out (by decide)) (fun _ hk => hk.2) (.int .u64 x144000_1)) (fun _ hk => hk.2) (.slice Ao60 x144001_2.length co60)) (fun _ hk => hk.2) (.slice Ao61 x144002_2.length co61)) (fun _ hk => hk.1), zB HB⟩
   · rw [if_neg c3] at H
     exact absurd H (by simp)
 · rw [if_neg c2] at H
   exact absurd H (by simp)
end Go.Proofs.YtjmdlmogdbhdhaaDoor.P
namespace Go.Proofs.YtjmdlmogdbhdhaaDoor.P
open Go.RowKit Go.Proofs.YtjmdlmogdbhdhaaDoorW.PrintWords Go.Proofs.YtjmdlmogdbhdhaaDoorW.PrintLast Go.Proofs.YtjmdlmogdbhdhaaDoorW.PrintMore
attribute [local go_sem] max2_int min2_int max_two min_two max_three min_three max_four min_four   -- for this text's walks alone
set_option linter.unusedVariables false
set_option linter.unusedSimpArgs false
/-! ### network_Set_List: function 50 -/
def network_Set_List.l0 : Nat → Int → List Int → Option (List Int)
 | 0, _, _ => none
 | k + 1, x0, x3 => if x0 = 0 then (some x3) else ((bits_TrailingZeros64.f x0).bind fun t153 => (if x3.length < 17592186044416 then (network_Set_List.l0 k (Go.bits .and .u64 x0 (IntKind.u64.wrap (x0 - 1))) (x3 ++ [t153])) else (none)))
def network_Set_List.f (k : Nat) (a0 : Int) : Option (List Int) := network_Set_List.l0 k a0 ([] : List Int)
theorem network_Set_List.mono_l : ∀ k, (∀ y0 y1, LeO (network_Set_List.l0 k y0 y1) (network_Set_List.l0 (k + 1) y0 y1))
 | 0 => fun _ _ r h => by simp [network_Set_List.l0] at h
 | k + 1 => by
  have ih0 := network_Set_List.mono_l k
  · intro y0 y1
    unfold network_Set_List.l0
    repeat' first
    | (with_reducible exact ih0 _ _)
    | (with_reducible exact LeO.refl _)
    | (with_reducible exact LeO.none _)
    | (with_reducible refine LeO.ite ?_ ?_)
    | (with_reducible refine LeO.bind ?_ (fun _ => ?_))
    | exact ih0 _ _
    | exact LeO.none _
    | refine LeO.ite ?_ ?_
    | refine LeO.bind ?_ (fun _ => ?_)
theorem network_Set_List.mono : ∀ a0 k, LeO (network_Set_List.f k a0) (network_Set_List.f (k + 1) a0) := by
 intro a0 k
 have ih0 := network_Set_List.mono_l k
 unfold network_Set_List.f
 repeat' first
  | (with_reducible exact ih0 _ _)
  | (with_reducible exact LeO.refl _)
  | (with_reducible exact LeO.none _)
  | (with_reducible refine LeO.ite ?_ ?_)
  | (with_reducible refine LeO.bind ?_ (fun _ => ?_))
  | exact ih0 _ _
  | exact LeO.none _
  | refine LeO.ite ?_ ?_
  | refine LeO.bind ?_ (fun _ => ?_)
set_option maxHeartbeats 8000000 in
set_option maxRecDepth 100000 in
theorem network_Set_List.calls (k : Nat) (a0 : Int) (r : List Int) (w : World) (hT : TabT w) (h : network_Set_List.f k a0 = some r) :
 Calls Tryd.prog 50 #[.int .u64 a0] w fun e w' => ∃ v0_ : Value, e = .returned (v0_) ∧ Kd.R (Kd.int .i64) 3 w' w.heap.size (fun _ => True) v0_ r ∧ Below w.heap.size w w' := by
 have HTab := Aside0.mk hT
 clear hT
 have HB := Aside0.mk (Below.refl w.heap.size w)
 have H : (network_Set_List.l0 k a0 ([] : List Int)) = some r := h
 clear h
 have H' := Aside0.mk H
 clear H
 go_enter Tryd.func50, Tryd.ntmps50
 go_wp2
 go_loopg [0, 3] k (fun kq v0 v3 w' => ∃ (x0_1 : Int) (x3_1 : List Int), v0 = .int .u64 x0_1 ∧ Aside0 (network_Set_List.l0 kq x0_1 x3_1 = some r) ∧ Aside0 (kq ≤ k) ∧ Aside0 (Kd.R (Kd.int .i64) 3 w' w.heap.size (fun _ => True) v3 x3_1) ∧ Aside0 (Below w.heap.size w w'))
 case atStart => exact ⟨(a0), (([] : List Int)), (by first | rfl | (simp; done) | (simp [*]; done)), H', ⟨Nat.le_refl _⟩, ⟨by first | exact Kd.R_nil _ _ _ _ _ | exact Kd.N_nil _ _ _ _ _ | exact Kd.V_nil _ _ _ _ _ | exact Kd.Q_nil _ _ _ _ _ | exact Kd.S_nil _ _ _ _ _ | exact Kd.R_nil _ _ _ 0 _⟩, ⟨zB HB⟩⟩
 case round =>
  clear H'
  obtain ⟨x0_1, x3_1, rfl, HA, HK1, HO_3, HB⟩ := hrel
  cases gk with
  | zero => exact absurd HA.out (by simp [network_Set_List.l0])
  | succ k1 =>
   have H := HA.out
   clear HA
   simp only [network_Set_List.l0] at H
   by_cases c2 : x0_1 = 0
   · rw [if_pos c2] at H
     have c2b0 : (x0_1 == 0) = true := beq_iff_eq.mpr c2
     have c2b1 : (x0_1 != 0) = false := bne_eq_false_iff_eq.mpr c2
     clear c2
     obtain rfl := Option.some.inj H
     go_wp2
     go_ret
     exact ⟨_, by first | rfl | (simp [errW_none, errW_some] <;> rfl) | (simp [*, errW_none, errW_some] <;> rfl), by (with_reducible repeat (first | apply Kd.R_alloc | apply Kd.R_drewN | apply Kd.R_drew)); exact HO_3.out, zB HB⟩
   · rw [if_neg c2] at H
     have c2b0 : (x0_1 == 0) = false := beq_eq_false_iff_ne.mpr c2
     have c2b1 : (x0_1 != 0) = true := bne_iff_ne.mpr c2
     replace H := Option.bind_eq_some_iff.mp H
     obtain ⟨t153, A30, H⟩ := H
     replace H : (if x3_1.length < 17592186044416 then (network_Set_List.l0 k1 (Go.bits .and .u64 x0_1 (IntKind.u64.wrap (x0_1 - 1))) (x3_1 ++ [t153])) else (none)) = some r := H
     have A3 := Aside0.mk A30
     clear A30
     by_cases c4 : x3_1.length < 17592186044416
     · rw [if_pos c4] at H
       have LMc4 := Aside0.mk c4
       clear c4
       obtain ⟨y154, hy154⟩ : ∃ y_ : List Int, y_ = (x3_1 ++ [t153]) := ⟨_, rfl⟩
       replace H : (network_Set_List.l0 k1 (Go.bits .and .u64 x0_1 (IntKind.u64.wrap (x0_1 - 1))) y154) = some r := by first | (rw [hy154]; with_reducible exact H) | (have H2_ := (Option.bind_some _ _).symm.trans H; rw [hy154]; with_reducible exact H2_) | (have H2_ := (Option.bind_some _ _).symm.trans H; with_reducible exact H2_) | with_reducible exact H | (rw [hy154]; exact H) | exact H
       have Ny154 := Aside0.mk hy154
       clear hy154
       have H' := Aside0.mk H
       clear H
       go_wp2_with (first | ((with_reducible refine gate_callee (f := 78) rfl ?_); refine goesL_ (some 12) rfl rfl Tryd.func78 (by kernel_rfl) rfl #[.int .u64 x0_1] rfl (by (try simp only [List.map_toArray, List.map_cons, List.map_nil]); first | done | rfl | (simp only [List.length_drop, List.length_take]; rfl)) ?_; (with_reducible refine (bits_TrailingZeros64.calls x0_1 t153 _ ?side1 A3.out).mono ?_); (case side1 => exact TabT.now HTab.out (zB HB)); rintro e w' ⟨rfl, ⟨nd, rfl⟩⟩; refine ⟨_, rfl, ?_⟩) | ((with_reducible refine gate_builtin (b := .append) (xs := #[.tmp 10, .tmp 13]) rfl ?_); at_builtin; refine Kd.R_append (Kd.int .i64) (w0 := w) w.heap.size rfl (.tmp 10) (.tmp 13) 25 3 (.int .i64 0) 8 rfl Tryd.underlying25 info3 rfl (by decide) (by omega) u3 x3_1 t153 [.int .i64 t153] (fun _ => True) (fun _ => False) rfl rfl ?aP (fun _ hk => hk.elim) ?aF ?aO ?aB ?aS ?aL ?_; (case aP => exact rfl); (case aB => exact (zB HB)); (case aF => exact (fun _ _ => trivial)); (case aO => exact (zR HO_3)); (case aS => exact (below_size (zB HB))); (case aL => have := LMc4.out; omega); intro v155 w5 ho hb hg hat; rw [← Ny154.out] at ho; have n0_ := Aside0.mk (hb); have n1_ := Aside0.mk (ho); clear HB; clear HO_3; have HB := n0_; have HO156 := n1_; clear n0_ n1_; clear ho hb hg hat))
       go_roundg k1
       case measure => have := HK1.out; omega
       case rel => exact ⟨(Go.bits .and .u64 x0_1 (IntKind.u64.wrap (x0_1 - 1))), (y154), (by first | rfl | (simp; done) | (simp [*]; done)), H', ⟨by have := HK1.out; omega⟩, ⟨zR HO156⟩, ⟨zB HB⟩⟩
     · rw [if_neg c4] at H
       exact absurd H (by simp)
end Go.Proofs.YtjmdlmogdbhdhaaDoor.P
namespace Go.Proofs.YtjmdlmogdbhdhaaDoor.P
open Go.RowKit Go.Proofs.YtjmdlmogdbhdhaaDoorW.PrintWords Go.Proofs.YtjmdlmogdbhdhaaDoorW.PrintLast Go.Proofs.YtjmdlmogdbhdhaaDoorW.PrintMore
attribute [local go_sem] max2_int min2_int max_two min_two max_three min_three max_four min_four   -- for this text's walks alone
set_option linter.unusedVariables false
set_option linter.unusedSimpArgs false
/-! ### network_Net_Hit: function 79 -/
def network_Net_Hit.l0 : Nat → Int → List Int → Int → Int → Int → List Int → List Int → Option (Int)
 | 0, _, _, _, _, _, _, _ => none
 | k + 1, x5, x9, x10, x11, x158000, x158001, x158002 => if x11 < x10 then (if 0 ≤ x11 then (if x11 < (x9.length : Int) then (if 0 ≤ (rd x9 x11) then (if (rd x9 x11) < (x158002.length : Int) then (network_Net_Hit.l0 k (Go.bits .or .u64 x5 (rd x158002 (rd x9 x11))) x9 x10 (wrap64 (x11 + 1)) x158000 x158001 x158002) else (none)) else (none)) else (none)) else (none)) else (some x5)
def network_Net_Hit.f (k : Nat) (a0_0 : Int) (l0_1 : List Int) (l0_2 : List Int) (a1 : Int) : Option (Int) := (network_Set_List.f k a1).bind fun t158 => (network_Net_Hit.l0 k 0 t158 (t158.length : Int) 0 a0_0 l0_1 l0_2)
theorem network_Net_Hit.mono_l : ∀ k, (∀ y0 y1 y2 y3 y4 y5 y6, LeO (network_Net_Hit.l0 k y0 y1 y2 y3 y4 y5 y6) (network_Net_Hit.l0 (k + 1) y0 y1 y2 y3 y4 y5 y6))
 | 0 => fun _ _ _ _ _ _ _ r h => by simp [network_Net_Hit.l0] at h
 | k + 1 => by
  have ih0 := network_Net_Hit.mono_l k
  · intro y0 y1 y2 y3 y4 y5 y6
    unfold network_Net_Hit.l0
    repeat' first
    | (with_reducible exact ih0 _ _ _ _ _ _ _)
    | (with_reducible exact network_Set_List.mono _ _)
    | (with_reducible exact LeO.refl _)
    | (with_reducible exact LeO.none _)
    | (with_reducible refine LeO.ite ?_ ?_)
    | (with_reducible refine LeO.bind ?_ (fun _ => ?_))
    | exact ih0 _ _ _ _ _ _ _
    | exact network_Set_List.mono _ _
    | exact LeO.none _
    | refine LeO.ite ?_ ?_
    | refine LeO.bind ?_ (fun _ => ?_)
theorem network_Net_Hit.mono : ∀ a0 a1 a2 a3 k, LeO (network_Net_Hit.f k a0 a1 a2 a3) (network_Net_Hit.f (k + 1) a0 a1 a2 a3) := by
 intro a0 a1 a2 a3 k
 have ih0 := network_Net_Hit.mono_l k
 unfold network_Net_Hit.f
 repeat' first
  | (with_reducible exact ih0 _ _ _ _ _ _ _)
  | (with_reducible exact network_Set_List.mono _ _)
  | (with_reducible exact LeO.refl _)
  | (with_reducible exact LeO.none _)
  | (with_reducible refine LeO.ite ?_ ?_)
  | (with_reducible refine LeO.bind ?_ (fun _ => ?_))
  | exact ih0 _ _ _ _ _ _ _
  | exact network_Set_List.mono _ _
  | exact LeO.none _
  | refine LeO.ite ?_ ?_
  | refine LeO.bind ?_ (fun _ => ?_)
set_option maxHeartbeats 8000000 in
set_option maxRecDepth 100000 in
theorem network_Net_Hit.calls (k : Nat) (a0_0 : Int) (A0_1 : Option Addr) (c0_1 : Nat) (l0_1 : List Int) (A0_2 : Option Addr) (c0_2 : Nat) (l0_2 : List Int) (a1 : Int) (r : Int) (w : World) (hr0_1 : Kd.C (Kd.int .u64) w A0_1 l0_1.length l0_1) (hc0_1 : l0_1.length ≤ c0_1) (hr0_2 : Kd.C (Kd.int .u64) w A0_2 l0_2.length l0_2) (hc0_2 : l0_2.length ≤ c0_2) (hT : TabT w) (h : network_Net_Hit.f k a0_0 l0_1 l0_2 a1 = some r) :
 Calls Tryd.prog 79 #[.agg #[.int .u64 a0_0, .slice A0_1 l0_1.length c0_1, .slice A0_2 l0_2.length c0_2], .int .u64 a1] w fun e w' => e = .returned (.int .u64 r) ∧ Below w.heap.size w w' := by
 have hu80 := Tryd.underlying80
 have HR0_1 := Aside0.mk hr0_1
 have HC0_1 := Aside0.mk hc0_1
 clear hr0_1 hc0_1
 have HR0_2 := Aside0.mk hr0_2
 have HC0_2 := Aside0.mk hc0_2
 clear hr0_2 hc0_2
 have HTab := Aside0.mk hT
 clear hT
 have HB := Aside0.mk (Below.refl w.heap.size w)
 have H : ((network_Set_List.f k a1).bind fun t158 => (network_Net_Hit.l0 k 0 t158 (t158.length : Int) 0 a0_0 l0_1 l0_2)) = some r := h
 clear h
 replace H := Option.bind_eq_some_iff.mp H
 obtain ⟨t158, A30, H⟩ := H
 replace H : (network_Net_Hit.l0 k 0 t158 (t158.length : Int) 0 a0_0 l0_1 l0_2) = some r := H
 have A3 := Aside0.mk A30
 clear A30
 have H' := Aside0.mk H
 clear H
 go_enter Tryd.func79, Tryd.ntmps79
 go_wp2_with (first | ((with_reducible refine gate_dst (N := 2) rfl ?_); refine box_event ?hg (N := 2) ?hd (cs := #[.int .u64 a0_0, .slice A0_1 l0_1.length c0_1, .slice A0_2 l0_2.length c0_2]) (t := 80) ?hr ?_; (case hd => rfl); (case hg => rfl); (case hr => first | (go_simp; done) | (go_simp; rfl)); intro gb157 hg w4 hbox hb; have n0_ := Aside0.mk (below_step (zB HB) hb); have n1_ := Aside0.mk (hbox); have n2_ := Aside0.mk ((by rw [hg]; exact (below_size (zB HB)) : w.heap.size ≤ gb157)); have n3_ := Aside0.mk ((by rw [hg]; exact (below_size (zB HB)) : w.heap.size ≤ gb157)); clear HB; have HB := n0_; have BK157 := n1_; have GW157 := n2_; have GE157 := n3_; clear n0_ n1_ n2_ n3_; clear hb hbox hg) | ((with_reducible refine gate_callee (f := 50) rfl ?_); refine goesL_ (some 9) rfl rfl Tryd.func50 (by kernel_rfl) rfl #[.int .u64 a1] rfl (by (try simp only [List.map_toArray, List.map_cons, List.map_nil]); first | done | rfl | (simp only [List.length_drop, List.length_take]; rfl)) ?_; (with_reducible refine (network_Set_List.calls k a1 t158 _ ?side1 A3.out).mono ?_); (case side1 => exact TabT.now HTab.out (zB HB)); rintro e w5 ⟨v159, rfl, ho0, hb⟩; refine ⟨_, rfl, ?_⟩; have n0_ := Aside0.mk (Kd.R_lower ho0 (below_size (zB HB))); have n1_ := Aside0.mk (blk_below (g := gb157) (o := .cells #[.int .u64 a0_0, .slice A0_1 l0_1.length c0_1, .slice A0_2 l0_2.length c0_2] 80 (0, 0)) (zK BK157) hb); have n2_ := Aside0.mk (below_step (zB HB) hb); clear BK157; clear HB; have HO160 := n0_; have BK157 := n1_; have HB := n2_; clear n0_ n1_ n2_; (try clear hb); (try clear hb2); (try clear hk); (try clear hi); (try clear ho0); obtain ⟨Ao6, co6, eo6⟩ := Kd.R_slice HO160.out; subst eo6))
 go_loopg [5, 11] k (fun kq v5 v11 w' => ∃ (x5_1 : Int) (x11_1 : Int), v5 = .int .u64 x5_1 ∧ v11 = .int .i64 x11_1 ∧ Aside0 (network_Net_Hit.l0 kq x5_1 t158 (t158.length : Int) x11_1 a0_0 l0_1 l0_2 = some r) ∧ Aside0 (kq ≤ k) ∧ Aside0 (Kd.R (Kd.int .i64) 3 w' w.heap.size (fun _ => True) (.slice Ao6 t158.length co6) t158) ∧ Aside0 (w'.heap[gb157]? = some (.cells #[.int .u64 a0_0, (.slice A0_1 l0_1.length c0_1), (.slice A0_2 l0_2.length c0_2)] 80 (0, 0))) ∧ Aside0 (Below w.heap.size w w'))
 case atStart => exact ⟨(0), (0), (by first | rfl | (simp; done) | (simp [*]; done)), (by first | rfl | (simp; done) | (simp [*]; done)), H', ⟨Nat.le_refl _⟩, ⟨zR HO160⟩, ⟨zK BK157⟩, ⟨zB HB⟩⟩
 case round =>
  clear H'
  try clear p2
  try clear c5
  obtain ⟨x5_1, x11_1, rfl, rfl, HA, HK1, HO_9, BK157, HB⟩ := hrel
  cases gk with
  | zero => exact absurd HA.out (by simp [network_Net_Hit.l0])
  | succ k1 =>
   have H := HA.out
   clear HA
   simp only [network_Net_Hit.l0] at H
   by_cases c7 : x11_1 < (t158.length : Int)
   · rw [if_pos c7] at H
     have c7b0 : decide (x11_1 < (t158.length : Int)) = true := decide_eq_true c7
     clear c7
     by_cases c8 : 0 ≤ x11_1
     · rw [if_pos c8] at H
       have c8b0 : decide (0 ≤ x11_1) = true := decide_eq_true c8
       clear c8
       by_cases c9 : x11_1 < (t158.length : Int)
       · rw [if_pos c9] at H
         have c9b0 : decide (x11_1 < (t158.length : Int)) = true := decide_eq_true c9
         clear c9
         by_cases c10 : 0 ≤ (rd t158 x11_1)
         · rw [if_pos c10] at H
           have c10b0 : decide (0 ≤ (rd t158 x11_1)) = true := decide_eq_true c10
           clear c10
           by_cases c11 : (rd t158 x11_1) < (l0_2.length : Int)
           · rw [if_pos c11] at H
             have c11b0 : decide ((rd t158 x11_1) < (l0_2.length : Int)) = true := decide_eq_true c11
             clear c11
             have H' := Aside0.mk H
             clear H
             have p161 : 0 ≤ (x11_1 : Int) := of_decide_eq_true (by first | (with_reducible assumption) | assumption)
             have q161 : x11_1 < (t158.length : Int) := of_decide_eq_true (by first | (with_reducible assumption) | assumption)
             obtain ⟨ad161, e161, hx161_0⟩ := Kd.at_int (Kd.R_reads' HO_9.out).2.2 x11_1 p161 q161
             cases e161
             replace p161 := eq_true p161
             replace q161 := eq_true q161
             have hcz12_0 : wr.cell? ⟨gb157, 0, none⟩ = some (.int .u64 a0_0) := (blk_cell BK157.out 0).trans rfl
             have hcz12_1 : wr.cell? ⟨gb157, 1, none⟩ = some (.slice A0_1 l0_1.length c0_1) := (blk_cell BK157.out 1).trans rfl
             have hcz12_2 : wr.cell? ⟨gb157, 2, none⟩ = some (.slice A0_2 l0_2.length c0_2) := (blk_cell BK157.out 2).trans rfl
             have hfz12_0 := blk_frozen BK157.out 0
             have hfz12_1 := blk_frozen BK157.out 1
             have hfz12_2 := blk_frozen BK157.out 2
             have p162 : 0 ≤ ((rd t158 x11_1) : Int) := of_decide_eq_true (by first | (with_reducible assumption) | assumption)
             have q162 : (rd t158 x11_1) < (l0_2.length : Int) := of_decide_eq_true (by first | (with_reducible assumption) | assumption)
             obtain ⟨ad162, e162, hx162_0⟩ := Kd.at_int HR0_2.out (rd t158 x11_1) p162 q162
             cases e162
             replace hx162_0 := (HB.out.cell (World.block_lt_of_cell? w _ hx162_0)).trans hx162_0
             replace p162 := eq_true p162
             replace q162 := eq_true q162
             go_wp2
             go_roundg k1
             case measure => have := HK1.out; omega
             case rel => exact ⟨(Go.bits .or .u64 x5_1 (rd l0_2 (rd t158 x11_1))), (wrap64 (x11_1 + 1)), (by first | rfl | (simp; done) | (simp [*]; done)), (by first | rfl | (simp; done) | (simp [*]; done)), H', ⟨by have := HK1.out; omega⟩, ⟨zR HO_9⟩, ⟨zK BK157⟩, ⟨zB HB⟩⟩
           · rw [if_neg c11] at H
             exact absurd H (by simp)
         · rw [if_neg c10] at H
           exact absurd H (by simp)
       · rw [if_neg c9] at H
         exact absurd H (by simp)
     · rw [if_neg c8] at H
       exact absurd H (by simp)
   · rw [if_neg c7] at H
     have c7b0 : decide (x11_1 < (t158.length : Int)) = false := decide_eq_false c7
     clear c7
     obtain rfl := Option.some.inj H
     go_wp2
     go_ret
     exact ⟨by first | rfl | (simp [errW_none, errW_some] <;> rfl) | (simp [*, errW_none, errW_some] <;> rfl), zB HB⟩
end Go.Proofs.YtjmdlmogdbhdhaaDoor.P
namespace Go.Proofs.YtjmdlmogdbhdhaaDoor.P
open Go.RowKit Go.Proofs.YtjmdlmogdbhdhaaDoorW.PrintWords Go.Proofs.YtjmdlmogdbhdhaaDoorW.PrintLast Go.Proofs.YtjmdlmogdbhdhaaDoorW.PrintMore
attribute [local go_sem] max2_int min2_int max_two min_two max_three min_three max_four min_four   -- for this text's walks alone
set_option linter.unusedVariables false
set_option linter.unusedSimpArgs false
/-! ### network_Net_Free: function 83 -/
def network_Net_Free.f (k : Nat) (a0_0 : Int) (l0_1 : List Int) (l0_2 : List Int) (a1 : Int) : Option (Bool) := (network_Net_Hit.f k a0_0 l0_1 l0_2 a1).bind fun t164 => (some ((Go.bits .and .u64 t164 a1) == 0))
theorem network_Net_Free.mono : ∀ a0 a1 a2 a3 k, LeO (network_Net_Free.f k a0 a1 a2 a3) (network_Net_Free.f (k + 1) a0 a1 a2 a3) := by
 intro a0 a1 a2 a3 k
 unfold network_Net_Free.f
 repeat' first
  | (with_reducible exact network_Net_Hit.mono _ _ _ _ _)
  | (with_reducible exact LeO.refl _)
  | (with_reducible exact LeO.none _)
  | (with_reducible refine LeO.ite ?_ ?_)
  | (with_reducible refine LeO.bind ?_ (fun _ => ?_))
  | exact network_Net_Hit.mono _ _ _ _ _
  | exact LeO.none _
  | refine LeO.ite ?_ ?_
  | refine LeO.bind ?_ (fun _ => ?_)
set_option maxHeartbeats 8000000 in
set_option maxRecDepth 100000 in
theorem network_Net_Free.calls (k : Nat) (a0_0 : Int) (A0_1 : Option Addr) (c0_1 : Nat) (l0_1 : List Int) (A0_2 : Option Addr) (c0_2 : Nat) (l0_2 : List Int) (a1 : Int) (r : Bool) (w : World) (hr0_1 : Kd.C (Kd.int .u64) w A0_1 l0_1.length l0_1) (hc0_1 : l0_1.length ≤ c0_1) (hr0_2 : Kd.C (Kd.int .u64) w A0_2 l0_2.length l0_2) (hc0_2 : l0_2.length ≤ c0_2) (hT : TabT w) (h : network_Net_Free.f k a0_0 l0_1 l0_2 a1 = some r) :
 Calls Tryd.prog 83 #[.agg #[.int .u64 a0_0, .slice A0_1 l0_1.length c0_1, .slice A0_2 l0_2.length c0_2], .int .u64 a1] w fun e w' => e = .returned (.bool r) ∧ Below w.heap.size w w' := by
 have hu80 := Tryd.underlying80
 have HR0_1 := Aside0.mk hr0_1
 have HC0_1 := Aside0.mk hc0_1
 clear hr0_1 hc0_1
 have HR0_2 := Aside0.mk hr0_2
 have HC0_2 := Aside0.mk hc0_2
 clear hr0_2 hc0_2
 have HTab := Aside0.mk hT
 clear hT
 have HB := Aside0.mk (Below.refl w.heap.size w)
 have H : ((network_Net_Hit.f k a0_0 l0_1 l0_2 a1).bind fun t164 => (some ((Go.bits .and .u64 t164 a1) == 0))) = some r := h
 clear h
 replace H := Option.bind_eq_some_iff.mp H
 obtain ⟨t164, A30, H⟩ := H
 replace H : (some ((Go.bits .and .u64 t164 a1) == 0)) = some r := H
 have A3 := Aside0.mk A30
 clear A30
 obtain rfl := Option.some.inj H
 go_enter Tryd.func83, Tryd.ntmps83
 go_wp2_with (first | ((with_reducible refine gate_dst (N := 2) rfl ?_); refine box_event ?hg (N := 2) ?hd (cs := #[.int .u64 a0_0, .slice A0_1 l0_1.length c0_1, .slice A0_2 l0_2.length c0_2]) (t := 80) ?hr ?_; (case hd => rfl); (case hg => rfl); (case hr => first | (go_simp; done) | (go_simp; rfl)); intro gb163 hg w4 hbox hb; have n0_ := Aside0.mk (below_step (zB HB) hb); have n1_ := Aside0.mk (hbox); have n2_ := Aside0.mk ((by rw [hg]; exact (below_size (zB HB)) : w.heap.size ≤ gb163)); have n3_ := Aside0.mk ((by rw [hg]; exact (below_size (zB HB)) : w.heap.size ≤ gb163)); clear HB; have HB := n0_; have BK163 := n1_; have GW163 := n2_; have GE163 := n3_; clear n0_ n1_ n2_ n3_; clear hb hbox hg; have hcz5_0 : w4.cell? ⟨gb163, 0, none⟩ = some (.int .u64 a0_0) := (blk_cell BK163.out 0).trans rfl; have hcz5_1 : w4.cell? ⟨gb163, 1, none⟩ = some (.slice A0_1 l0_1.length c0_1) := (blk_cell BK163.out 1).trans rfl; have hcz5_2 : w4.cell? ⟨gb163, 2, none⟩ = some (.slice A0_2 l0_2.length c0_2) := (blk_cell BK163.out 2).trans rfl; have hfz5_0 := blk_frozen BK163.out 0; have hfz5_1 := blk_frozen BK163.out 1; have hfz5_2 := blk_frozen BK163.out 2) | ((with_reducible refine gate_callee (f := 79) rfl ?_); refine goesL_ (some 7) rfl rfl Tryd.func79 (by kernel_rfl) rfl #[.agg #[.int .u64 a0_0, .slice A0_1 l0_1.length c0_1, .slice A0_2 l0_2.length c0_2], .int .u64 a1] rfl (by (try simp only [List.map_toArray, List.map_cons, List.map_nil]); first | done | rfl | (simp only [List.length_drop, List.length_take]; rfl)) ?_; (with_reducible refine (network_Net_Hit.calls k a0_0 _ _ l0_1 _ _ l0_2 a1 t164 _ ?side1 ?side2 ?side3 ?side4 ?side5 A3.out).mono ?_); (case side1 => repeat (first | exact (Kd.C_below HR0_1.out HB.out) | (with_reducible refine Kd.C_alloc ?_ _) | (with_reducible refine Kd.C_drewN ?_ _) | (with_reducible refine Kd.C_drew ?_))); (case side2 => exact HC0_1.out); (case side3 => repeat (first | exact (Kd.C_below HR0_2.out HB.out) | (with_reducible refine Kd.C_alloc ?_ _) | (with_reducible refine Kd.C_drewN ?_ _) | (with_reducible refine Kd.C_drew ?_))); (case side4 => exact HC0_2.out); (case side5 => exact TabT.now HTab.out (zB HB)); rintro e w6 ⟨rfl, hb⟩; refine ⟨_, rfl, ?_⟩; have n0_ := Aside0.mk (blk_below (g := gb163) (o := .cells #[.int .u64 a0_0, .slice A0_1 l0_1.length c0_1, .slice A0_2 l0_2.length c0_2] 80 (0, 0)) (zK BK163) hb); have n1_ := Aside0.mk (below_step (zB HB) hb); clear BK163; clear HB; have BK163 := n0_; have HB := n1_; clear n0_ n1_; (try clear hb); (try clear hb2); (try clear hk); (try clear hi)))
 go_ret
 exact ⟨by first | rfl | (simp [errW_none, errW_some] <;> rfl) | (simp [*, errW_none, errW_some] <;> rfl), zB HB⟩
end Go.Proofs.YtjmdlmogdbhdhaaDoor.P
namespace Go.Proofs.YtjmdlmogdbhdhaaDoor.P
open Go.RowKit Go.Proofs.YtjmdlmogdbhdhaaDoorW.PrintWords Go.Proofs.YtjmdlmogdbhdhaaDoorW.PrintLast Go.Proofs.YtjmdlmogdbhdhaaDoorW.PrintMore
attribute [local go_sem] max2_int min2_int max_two min_two max_three min_three max_four min_four   -- for this text's walks alone
set_option linter.unusedVariables false
set_option linter.unusedSimpArgs false
/-! ### network_Net_Stable: function 65 -/
def network_Net_Stable.f (k : Nat) (a0_0 : Int) (l0_1 : List Int) (l0_2 : List Int) (a1 : Int) : Option (Bool) := (network_Net_Free.f k a0_0 l0_1 l0_2 a1).bind fun t166 => (if t166 = true then ((network_Net_Hit.f k a0_0 l0_1 l0_2 a1).bind fun t167 => (some ((Go.bits .andNot .u64 (Go.bits .andNot .u64 a0_0 a1) t167) == 0))) else (some false))
theorem network_Net_Stable.mono : ∀ a0 a1 a2 a3 k, LeO (network_Net_Stable.f k a0 a1 a2 a3) (network_Net_Stable.f (k + 1) a0 a1 a2 a3) := by
 intro a0 a1 a2 a3 k
 unfold network_Net_Stable.f
 repeat' first
  | (with_reducible exact network_Net_Free.mono _ _ _ _ _)
  | (with_reducible exact network_Net_Hit.mono _ _ _ _ _)
  | (with_reducible exact LeO.refl _)
  | (with_reducible exact LeO.none _)
  | (with_reducible refine LeO.ite ?_ ?_)
  | (with_reducible refine LeO.bind ?_ (fun _ => ?_))
  | exact network_Net_Free.mono _ _ _ _ _
  | exact network_Net_Hit.mono _ _ _ _ _
  | exact LeO.none _
  | refine LeO.ite ?_ ?_
  | refine LeO.bind ?_ (fun _ => ?_)
def network_Net_Stable.T1 : Bool × List (List Nat × List Nat) := (true, [([], []), ([], []), ([0, 1], [0, 1]), ([2, 2], [2]), ([3], [3]), ([4, 3], [3, 4]), ([3], [3]), ([5, 6, 3], [3, 5, 6]), ([3], [3]), ([3], [3]), ([8, 9, 3, 3], [3, 8, 9]), ([7, 10, 3], [3, 7, 10]), ([11, 3], [3, 11]), ([3, 12], [3, 12]), ([13, 10, 0, 1, 2, 3, 4, 5, 6, 7, 8, 9, 10, 11, 12, 13], [13])])
def network_Net_Stable.B1 : List Nat := [0, 0, 3, 7, 15, 31, 15, 127, 15, 15, 783, 2047, 4095, 8191, 16383]
theorem network_Net_Stable.tab1 : rtab .any (opsOf Tryd.f65 1) = network_Net_Stable.T1 := by kernel_rfl
theorem network_Net_Stable.bits1 : waitsOk network_Net_Stable.T1.2 network_Net_Stable.B1 = true := by kernel_rfl
set_option maxHeartbeats 8000000 in
set_option maxRecDepth 100000 in
theorem network_Net_Stable.calls (k : Nat) (a0_0 : Int) (A0_1 : Option Addr) (c0_1 : Nat) (l0_1 : List Int) (A0_2 : Option Addr) (c0_2 : Nat) (l0_2 : List Int) (a1 : Int) (r : Bool) (w : World) (hr0_1 : Kd.C (Kd.int .u64) w A0_1 l0_1.length l0_1) (hc0_1 : l0_1.length ≤ c0_1) (hr0_2 : Kd.C (Kd.int .u64) w A0_2 l0_2.length l0_2) (hc0_2 : l0_2.length ≤ c0_2) (hT : TabT w) (h : network_Net_Stable.f k a0_0 l0_1 l0_2 a1 = some r) :
 Calls Tryd.prog 65 #[.agg #[.int .u64 a0_0, .slice A0_1 l0_1.length c0_1, .slice A0_2 l0_2.length c0_2], .int .u64 a1] w fun e w' => e = .returned (.bool r) ∧ Below w.heap.size w w' := by
 have hu80 := Tryd.underlying80
 have HR0_1 := Aside0.mk hr0_1
 have HC0_1 := Aside0.mk hc0_1
 clear hr0_1 hc0_1
 have HR0_2 := Aside0.mk hr0_2
 have HC0_2 := Aside0.mk hc0_2
 clear hr0_2 hc0_2
 have HTab := Aside0.mk hT
 clear hT
 have HB := Aside0.mk (Below.refl w.heap.size w)
 have H : ((network_Net_Free.f k a0_0 l0_1 l0_2 a1).bind fun t166 => (if t166 = true then ((network_Net_Hit.f k a0_0 l0_1 l0_2 a1).bind fun t167 => (some ((Go.bits .andNot .u64 (Go.bits .andNot .u64 a0_0 a1) t167) == 0))) else (some false))) = some r := h
 clear h
 replace H := Option.bind_eq_some_iff.mp H
 obtain ⟨t166, A30, H⟩ := H
 replace H : (if t166 = true then ((network_Net_Hit.f k a0_0 l0_1 l0_2 a1).bind fun t167 => (some ((Go.bits .andNot .u64 (Go.bits .andNot .u64 a0_0 a1) t167) == 0))) else (some false)) = some r := H
 have A3 := Aside0.mk A30
 clear A30
 by_cases c4 : t166 = true
 · subst c4
   have H1 : ((network_Net_Hit.f k a0_0 l0_1 l0_2 a1).bind fun t167 => (some ((Go.bits .andNot .u64 (Go.bits .andNot .u64 a0_0 a1) t167) == 0))) = some r := by rw [if_pos rfl] at H; exact H
   clear H
   have H := H1
   clear H1
   replace H := Option.bind_eq_some_iff.mp H
   obtain ⟨t167, A50, H⟩ := H
   replace H : (some ((Go.bits .andNot .u64 (Go.bits .andNot .u64 a0_0 a1) t167) == 0)) = some r := H
   have A5 := Aside0.mk A50
   clear A50
   obtain rfl := Option.some.inj H
   go_enter Tryd.func65, Tryd.ntmps65
   try go_wp2_with (first | ((with_reducible refine gate_dst (N := 2) rfl ?_); refine box_event ?hg (N := 2) ?hd (cs := #[.int .u64 a0_0, .slice A0_1 l0_1.length c0_1, .slice A0_2 l0_2.length c0_2]) (t := 80) ?hr ?_; (case hd => rfl); (case hg => rfl); (case hr => first | (go_simp; done) | (go_simp; rfl)); intro gb165 hg w6 hbox hb; have n0_ := Aside0.mk (below_step (zB HB) hb); have n1_ := Aside0.mk (hbox); have n2_ := Aside0.mk ((by rw [hg]; exact (below_size (zB HB)) : w.heap.size ≤ gb165)); have n3_ := Aside0.mk ((by rw [hg]; exact (below_size (zB HB)) : w.heap.size ≤ gb165)); clear HB; have HB := n0_; have BK165 := n1_; have GW165 := n2_; have GE165 := n3_; clear n0_ n1_ n2_ n3_; clear hb hbox hg))
   have n0_ := Aside0.mk (blk_drew BK165.out)
   have n1_ := Aside0.mk (below_drew1 HB.out)
   clear BK165
   clear HB
   have BK165 := n0_
   have HB := n1_
   clear n0_ n1_
   refine start_ (n := 15) (S := fun w' => w'.cell? ⟨gb165, 0, none⟩ = some (.int .u64 a0_0) ∧ w'.cell? ⟨gb165, 1, none⟩ = some (.slice A0_1 l0_1.length c0_1) ∧ w'.cell? ⟨gb165, 2, none⟩ = some (.slice A0_2 l0_2.length c0_2)) (ds := []) #[false, false, false, false, false, false, false, false, false, false, false, false, false, false, false] (by kernel_rfl) rfl rfl ⟨(blk_cell BK165.out 0).trans rfl, (blk_cell BK165.out 1).trans rfl, (blk_cell BK165.out 2).trans rfl⟩ (fun hHeld => ?_); refine with_tabW network_Net_Stable.tab1 network_Net_Stable.bits1 (fun HT_ HW_ => ?_)
   generalize w6.drew = w7 at BK165 HB hHeld ⊢
   refine pure_ (i := 1) (N := some 6) (v := ?_) (a' := ?_) #[false, true, false, false, false, false, false, false, false, false, false, false, false, false, false] rfl rfl (any_of HT_.out (by kernel_rfl)) (fun _ _ _ h => h) (Or.inl ⟨by rfl, ?_⟩) ?_ ?_
   rotate_left
   · intro w'
     go_simp
     with_reducible rfl
   rotate_left
   · simp only [Act.put, List.setIfInBounds_toArray, List.set_cons_zero, List.set_cons_succ, i64_w, i32_w]
     rfl
   refine take_ (i := 0) (N := some 5) (v := ?_) (a' := ?_) #[true, true, false, false, false, false, false, false, false, false, false, false, false, false, false] rfl rfl (take_ofW HT_.out HW_.out (by kernel_rfl)) (fun _ _ _ h => h) (Or.inl ⟨by rfl, ?_⟩) hHeld ?_ ?_
   rotate_left
   · rintro w' ⟨s0, s1, s2⟩
     go_simp
     with_reducible rfl
   rotate_left
   · simp only [Act.put, List.setIfInBounds_toArray, List.set_cons_zero, List.set_cons_succ, i64_w, i32_w]
     rfl
   refine one_ (i := 2) (N := some 7) #[true, true, true, false, false, false, false, false, false, false, false, false, false, false, false] rfl rfl (one_of HT_.out (by kernel_rfl)) (by decide) (fun K hK => ?_)
   refine goes_ Tryd.func83 (by kernel_rfl) rfl #[.agg #[.int .u64 a0_0, .slice A0_1 l0_1.length c0_1, .slice A0_2 l0_2.length c0_2], .int .u64 a1] (by rfl) rfl rfl (by (try simp only [List.map_toArray, List.map_cons, List.map_nil]); first | done | rfl | (simp only [List.length_drop, List.length_take]; rfl)) ?_
   with_reducible refine (network_Net_Free.calls k a0_0 _ _ l0_1 _ _ l0_2 a1 true _ ?side1 ?side2 ?side3 ?side4 ?side5 A3.out).mono ?_
   (case side1 => repeat (first | exact (Kd.C_below HR0_1.out HB.out) | (with_reducible refine Kd.C_alloc ?_ _) | (with_reducible refine Kd.C_drewN ?_ _) | (with_reducible refine Kd.C_drew ?_)))
   (case side2 => exact HC0_1.out)
   (case side3 => repeat (first | exact (Kd.C_below HR0_2.out HB.out) | (with_reducible refine Kd.C_alloc ?_ _) | (with_reducible refine Kd.C_drewN ?_ _) | (with_reducible refine Kd.C_drew ?_)))
   (case side4 => exact HC0_2.out)
   (case side5 => exact TabT.now HTab.out (zB HB))
   rintro e w8 ⟨rfl, hb⟩
   refine ⟨_, rfl, ?_⟩
   have n0_ := Aside0.mk (blk_below (g := gb165) (o := .cells #[.int .u64 a0_0, .slice A0_1 l0_1.length c0_1, .slice A0_2 l0_2.length c0_2] 80 (0, 0)) (zK BK165) hb)
   have n1_ := Aside0.mk (below_step (zB HB) hb)
   clear BK165
   clear HB
   have BK165 := n0_
   have HB := n1_
   clear n0_ n1_
   (try clear hb)
   (try clear hb2)
   (try clear hk)
   (try clear hi)
   refine hK.out _ _ ⟨(blk_cell BK165.out 0).trans rfl, (blk_cell BK165.out 1).trans rfl, (blk_cell BK165.out 2).trans rfl⟩ (fun hHeld => ?_)
   clear hK K
   refine norm_ (a' := ?_) ?_ ?_
   rotate_left
   · show Act.put _ (some 7) _ = _
     simp only [Act.put, List.setIfInBounds_toArray, List.set_cons_zero, List.set_cons_succ, i64_w, i32_w]
     rfl
   refine pure_ (i := 3) (N := some 8) (v := ?_) (a' := ?_) #[true, true, true, true, false, false, false, false, false, false, false, false, false, false, false] rfl rfl (any_of HT_.out (by kernel_rfl)) (fun _ _ _ h => h) (Or.inl ⟨by rfl, ?_⟩) ?_ ?_
   rotate_left
   · intro w'
     go_simp
     with_reducible rfl
   rotate_left
   · simp only [Act.put, List.setIfInBounds_toArray, List.set_cons_zero, List.set_cons_succ, i64_w, i32_w]
     rfl
   refine pure_ (i := 4) (N := some 9) (v := ?_) (a' := ?_) #[true, true, true, true, true, false, false, false, false, false, false, false, false, false, false] rfl rfl (any_of HT_.out (by kernel_rfl)) (fun _ _ _ h => h) (Or.inl ⟨by rfl, ?_⟩) ?_ ?_
   rotate_left
   · intro w'
     go_simp
     with_reducible rfl
   rotate_left
   · simp only [Act.put, List.setIfInBounds_toArray, List.set_cons_zero, List.set_cons_succ, i64_w, i32_w]
     rfl
   refine pure_ (i := 6) (N := some 11) (v := ?_) (a' := ?_) #[true, true, true, true, true, false, true, false, false, false, false, false, false, false, false] rfl rfl (any_of HT_.out (by kernel_rfl)) (fun _ _ _ h => h) (Or.inl ⟨by rfl, ?_⟩) ?_ ?_
   rotate_left
   · intro w'
     go_simp
     with_reducible rfl
   rotate_left
   · simp only [Act.put, List.setIfInBounds_toArray, List.set_cons_zero, List.set_cons_succ, i64_w, i32_w]
     rfl
   refine pure_ (i := 9) (N := some 14) (v := ?_) (a' := ?_) #[true, true, true, true, true, false, true, false, false, true, false, false, false, false, false] rfl rfl (any_of HT_.out (by kernel_rfl)) (fun _ _ _ h => h) (Or.inl ⟨by rfl, ?_⟩) ?_ ?_
   rotate_left
   · intro w'
     go_simp
     with_reducible rfl
   rotate_left
   · simp only [Act.put, List.setIfInBounds_toArray, List.set_cons_zero, List.set_cons_succ, i64_w, i32_w]
     rfl
   refine take_ (i := 5) (N := some 10) (v := ?_) (a' := ?_) #[true, true, true, true, true, true, true, false, false, true, false, false, false, false, false] rfl rfl (take_ofW HT_.out HW_.out (by kernel_rfl)) (fun _ _ _ h => h) (Or.inl ⟨by rfl, ?_⟩) hHeld ?_ ?_
   rotate_left
   · rintro w' ⟨s0, s1, s2⟩
     go_simp
     with_reducible rfl
   rotate_left
   · simp only [Act.put, List.setIfInBounds_toArray, List.set_cons_zero, List.set_cons_succ, i64_w, i32_w]
     rfl
   refine pure_ (i := 7) (N := some 12) (v := ?_) (a' := ?_) #[true, true, true, true, true, true, true, true, false, true, false, false, false, false, false] rfl rfl (any_of HT_.out (by kernel_rfl)) (fun _ _ _ h => h) (Or.inl ⟨by rfl, ?_⟩) ?_ ?_
   rotate_left
   · intro w'
     go_simp
     with_reducible rfl
   rotate_left
   · simp only [Act.put, List.setIfInBounds_toArray, List.set_cons_zero, List.set_cons_succ, i64_w, i32_w]
     rfl
   refine take_ (i := 8) (N := some 13) (v := ?_) (a' := ?_) #[true, true, true, true, true, true, true, true, true, true, false, false, false, false, false] rfl rfl (take_ofW HT_.out HW_.out (by kernel_rfl)) (fun _ _ _ h => h) (Or.inl ⟨by rfl, ?_⟩) hHeld ?_ ?_
   rotate_left
   · rintro w' ⟨s0, s1, s2⟩
     go_simp
     with_reducible rfl
   rotate_left
   · simp only [Act.put, List.setIfInBounds_toArray, List.set_cons_zero, List.set_cons_succ, i64_w, i32_w]
     rfl
   refine one_ (i := 10) (N := some 15) #[true, true, true, true, true, true, true, true, true, true, true, false, false, false, false] rfl rfl (one_of HT_.out (by kernel_rfl)) (by decide) (fun K hK => ?_)
   refine goes_ Tryd.func79 (by kernel_rfl) rfl #[.agg #[.int .u64 a0_0, .slice A0_1 l0_1.length c0_1, .slice A0_2 l0_2.length c0_2], .int .u64 a1] (by rfl) rfl rfl (by (try simp only [List.map_toArray, List.map_cons, List.map_nil]); first | done | rfl | (simp only [List.length_drop, List.length_take]; rfl)) ?_
   with_reducible refine (network_Net_Hit.calls k a0_0 _ _ l0_1 _ _ l0_2 a1 t167 _ ?side1 ?side2 ?side3 ?side4 ?side5 A5.out).mono ?_
   (case side1 => repeat (first | exact (Kd.C_below HR0_1.out HB.out) | (with_reducible refine Kd.C_alloc ?_ _) | (with_reducible refine Kd.C_drewN ?_ _) | (with_reducible refine Kd.C_drew ?_)))
   (case side2 => exact HC0_1.out)
   (case side3 => repeat (first | exact (Kd.C_below HR0_2.out HB.out) | (with_reducible refine Kd.C_alloc ?_ _) | (with_reducible refine Kd.C_drewN ?_ _) | (with_reducible refine Kd.C_drew ?_)))
   (case side4 => exact HC0_2.out)
   (case side5 => exact TabT.now HTab.out (zB HB))
   rintro e w9 ⟨rfl, hb⟩
   refine ⟨_, rfl, ?_⟩
   have n0_ := Aside0.mk (blk_below (g := gb165) (o := .cells #[.int .u64 a0_0, .slice A0_1 l0_1.length c0_1, .slice A0_2 l0_2.length c0_2] 80 (0, 0)) (zK BK165) hb)
   have n1_ := Aside0.mk (below_step (zB HB) hb)
   clear BK165
   clear HB
   have BK165 := n0_
   have HB := n1_
   clear n0_ n1_
   (try clear hb)
   (try clear hb2)
   (try clear hk)
   (try clear hi)
   refine hK.out _ _ ⟨(blk_cell BK165.out 0).trans rfl, (blk_cell BK165.out 1).trans rfl, (blk_cell BK165.out 2).trans rfl⟩ (fun hHeld => ?_)
   clear hK K
   refine norm_ (a' := ?_) ?_ ?_
   rotate_left
   · show Act.put _ (some 15) _ = _
     simp only [Act.put, List.setIfInBounds_toArray, List.set_cons_zero, List.set_cons_succ, i64_w, i32_w]
     rfl
   refine pure_ (i := 11) (N := some 16) (v := ?_) (a' := ?_) #[true, true, true, true, true, true, true, true, true, true, true, true, false, false, false] rfl rfl (any_of HT_.out (by kernel_rfl)) (fun _ _ _ h => h) (Or.inl ⟨by rfl, ?_⟩) ?_ ?_
   rotate_left
   · intro w'
     go_simp
     with_reducible rfl
   rotate_left
   · simp only [Act.put, List.setIfInBounds_toArray, List.set_cons_zero, List.set_cons_succ, i64_w, i32_w]
     rfl
   refine pure_ (i := 12) (N := some 17) (v := ?_) (a' := ?_) #[true, true, true, true, true, true, true, true, true, true, true, true, true, false, false] rfl rfl (any_of HT_.out (by kernel_rfl)) (fun _ _ _ h => h) (Or.inl ⟨by rfl, ?_⟩) ?_ ?_
   rotate_left
   · intro w'
     go_simp
     with_reducible rfl
   rotate_left
   · simp only [Act.put, List.setIfInBounds_toArray, List.set_cons_zero, List.set_cons_succ, i64_w, i32_w]
     rfl
   refine pure_ (i := 13) (N := some 18) (v := ?_) (a' := ?_) #[true, true, true, true, true, true, true, true, true, true, true, true, true, true, false] rfl rfl (any_of HT_.out (by kernel_rfl)) (fun _ _ _ h => h) (Or.inl ⟨by rfl, ?_⟩) ?_ ?_
   rotate_left
   · intro w'
     go_simp
     with_reducible rfl
   rotate_left
   · simp only [Act.put, List.setIfInBounds_toArray, List.set_cons_zero, List.set_cons_succ, i64_w, i32_w]
     rfl
   refine pure_ (i := 14) (N := some 4) (v := ?_) (a' := ?_) #[true, true, true, true, true, true, true, true, true, true, true, true, true, true, true] rfl rfl (any_of HT_.out (by kernel_rfl)) (fun _ _ _ h => h) (Or.inl ⟨by rfl, ?_⟩) ?_ ?_
   rotate_left
   · intro w'
     go_simp
     with_reducible rfl
   rotate_left
   · simp only [Act.put, List.setIfInBounds_toArray, List.set_cons_zero, List.set_cons_succ, i64_w, i32_w]
     rfl
   refine done_ (done_of HT_.out (by kernel_rfl)) ?_
   try go_wp2
   go_ret
   exact ⟨by first | rfl | (simp [errW_none, errW_some] <;> rfl) | (simp [*, errW_none, errW_some] <;> rfl), zB HB⟩
 · replace c4 := Bool.eq_false_iff.mpr c4
   subst c4
   have H1 : (some false) = some r := by rw [if_neg (show ¬ (false = true) by decide)] at H; exact H
   clear H
   have H := H1
   clear H1
   obtain rfl := Option.some.inj H
   go_enter Tryd.func65, Tryd.ntmps65
   try go_wp2_with (first | ((with_reducible refine gate_dst (N := 2) rfl ?_); refine box_event ?hg (N := 2) ?hd (cs := #[.int .u64 a0_0, .slice A0_1 l0_1.length c0_1, .slice A0_2 l0_2.length c0_2]) (t := 80) ?hr ?_; (case hd => rfl); (case hg => rfl); (case hr => first | (go_simp; done) | (go_simp; rfl)); intro gb165 hg w10 hbox hb; have n0_ := Aside0.mk (below_step (zB HB) hb); have n1_ := Aside0.mk (hbox); have n2_ := Aside0.mk ((by rw [hg]; exact (below_size (zB HB)) : w.heap.size ≤ gb165)); have n3_ := Aside0.mk ((by rw [hg]; exact (below_size (zB HB)) : w.heap.size ≤ gb165)); clear HB; have HB := n0_; have BK165 := n1_; have GW165 := n2_; have GE165 := n3_; clear n0_ n1_ n2_ n3_; clear hb hbox hg))
   have n0_ := Aside0.mk (blk_drew BK165.out)
   have n1_ := Aside0.mk (below_drew1 HB.out)
   clear BK165
   clear HB
   have BK165 := n0_
   have HB := n1_
   clear n0_ n1_
   refine start_ (n := 15) (S := fun w' => w'.cell? ⟨gb165, 0, none⟩ = some (.int .u64 a0_0) ∧ w'.cell? ⟨gb165, 1, none⟩ = some (.slice A0_1 l0_1.length c0_1) ∧ w'.cell? ⟨gb165, 2, none⟩ = some (.slice A0_2 l0_2.length c0_2)) (ds := []) #[false, false, false, false, false, false, false, false, false, false, false, false, false, false, false] (by kernel_rfl) rfl rfl ⟨(blk_cell BK165.out 0).trans rfl, (blk_cell BK165.out 1).trans rfl, (blk_cell BK165.out 2).trans rfl⟩ (fun hHeld => ?_); refine with_tabW network_Net_Stable.tab1 network_Net_Stable.bits1 (fun HT_ HW_ => ?_)
   generalize w10.drew = w11 at BK165 HB hHeld ⊢
   refine pure_ (i := 1) (N := some 6) (v := ?_) (a' := ?_) #[false, true, false, false, false, false, false, false, false, false, false, false, false, false, false] rfl rfl (any_of HT_.out (by kernel_rfl)) (fun _ _ _ h => h) (Or.inl ⟨by rfl, ?_⟩) ?_ ?_
   rotate_left
   · intro w'
     go_simp
     with_reducible rfl
   rotate_left
   · simp only [Act.put, List.setIfInBounds_toArray, List.set_cons_zero, List.set_cons_succ, i64_w, i32_w]
     rfl
   refine take_ (i := 0) (N := some 5) (v := ?_) (a' := ?_) #[true, true, false, false, false, false, false, false, false, false, false, false, false, false, false] rfl rfl (take_ofW HT_.out HW_.out (by kernel_rfl)) (fun _ _ _ h => h) (Or.inl ⟨by rfl, ?_⟩) hHeld ?_ ?_
   rotate_left
   · rintro w' ⟨s0, s1, s2⟩
     go_simp
     with_reducible rfl
   rotate_left
   · simp only [Act.put, List.setIfInBounds_toArray, List.set_cons_zero, List.set_cons_succ, i64_w, i32_w]
     rfl
   refine one_ (i := 2) (N := some 7) #[true, true, true, false, false, false, false, false, false, false, false, false, false, false, false] rfl rfl (one_of HT_.out (by kernel_rfl)) (by decide) (fun K hK => ?_)
   refine goes_ Tryd.func83 (by kernel_rfl) rfl #[.agg #[.int .u64 a0_0, .slice A0_1 l0_1.length c0_1, .slice A0_2 l0_2.length c0_2], .int .u64 a1] (by rfl) rfl rfl (by (try simp only [List.map_toArray, List.map_cons, List.map_nil]); first | done | rfl | (simp only [List.length_drop, List.length_take]; rfl)) ?_
   with_reducible refine (network_Net_Free.calls k a0_0 _ _ l0_1 _ _ l0_2 a1 false _ ?side1 ?side2 ?side3 ?side4 ?side5 A3.out).mono ?_
   (case side1 => repeat (first | exact (Kd.C_below HR0_1.out HB.out) | (with_reducible refine Kd.C_alloc ?_ _) | (with_reducible refine Kd.C_drewN ?_ _) | (with_reducible refine Kd.C_drew ?_)))
   (case side2 => exact HC0_1.out)
   (case side3 => repeat (first | exact (Kd.C_below HR0_2.out HB.out) | (with_reducible refine Kd.C_alloc ?_ _) | (with_reducible refine Kd.C_drewN ?_ _) | (with_reducible refine Kd.C_drew ?_)))
   (case side4 => exact HC0_2.out)
   (case side5 => exact TabT.now HTab.out (zB HB))
   rintro e w12 ⟨rfl, hb⟩
   refine ⟨_, rfl, ?_⟩
   have n0_ := Aside0.mk (blk_below (g := gb165) (o := .cells #[.int .u64 a0_0, .slice A0_1 l0_1.length c0_1, .slice A0_2 l0_2.length c0_2] 80 (0, 0)) (zK BK165) hb)
   have n1_ := Aside0.mk (below_step (zB HB) hb)
   clear BK165
   clear HB
   have BK165 := n0_
   have HB := n1_
   clear n0_ n1_
   (try clear hb)
   (try clear hb2)
   (try clear hk)
   (try clear hi)
   refine hK.out _ _ ⟨(blk_cell BK165.out 0).trans rfl, (blk_cell BK165.out 1).trans rfl, (blk_cell BK165.out 2).trans rfl⟩ (fun hHeld => ?_)
   clear hK K
   refine norm_ (a' := ?_) ?_ ?_
   rotate_left
   · show Act.put _ (some 7) _ = _
     simp only [Act.put, List.setIfInBounds_toArray, List.set_cons_zero, List.set_cons_succ, i64_w, i32_w]
     rfl
   refine pure_ (i := 3) (N := some 8) (v := ?_) (a' := ?_) #[true, true, true, true, false, false, false, false, false, false, false, false, false, false, false] rfl rfl (any_of HT_.out (by kernel_rfl)) (fun _ _ _ h => h) (Or.inl ⟨by rfl, ?_⟩) ?_ ?_
   rotate_left
   · intro w'
     go_simp
     with_reducible rfl
   rotate_left
   · simp only [Act.put, List.setIfInBounds_toArray, List.set_cons_zero, List.set_cons_succ, i64_w, i32_w]
     rfl
   refine pure_ (i := 4) (N := some 9) (v := undef) (a' := ?_) #[true, true, true, true, true, false, false, false, false, false, false, false, false, false, false] rfl rfl (any_of HT_.out (by kernel_rfl)) (fun _ _ _ h => h) (Or.inr ⟨by rfl, rfl⟩) ?_ ?_
   rotate_left
   · simp only [Act.put, List.setIfInBounds_toArray, List.set_cons_zero, List.set_cons_succ, i64_w, i32_w]
     rfl
   refine pure_ (i := 5) (N := some 10) (v := undef) (a' := ?_) #[true, true, true, true, true, true, false, false, false, false, false, false, false, false, false] rfl rfl (any_of HT_.out (by kernel_rfl)) (fun _ _ _ h => h) (Or.inr ⟨by rfl, rfl⟩) ?_ ?_
   rotate_left
   · simp only [Act.put, List.setIfInBounds_toArray, List.set_cons_zero, List.set_cons_succ, i64_w, i32_w]
     rfl
   refine pure_ (i := 6) (N := some 11) (v := undef) (a' := ?_) #[true, true, true, true, true, true, true, false, false, false, false, false, false, false, false] rfl rfl (any_of HT_.out (by kernel_rfl)) (fun _ _ _ h => h) (Or.inr ⟨by rfl, rfl⟩) ?_ ?_
   rotate_left
   · simp only [Act.put, List.setIfInBounds_toArray, List.set_cons_zero, List.set_cons_succ, i64_w, i32_w]
     rfl
   refine pure_ (i := 7) (N := some 12) (v := undef) (a' := ?_) #[true, true, true, true, true, true, true, true, false, false, false, false, false, false, false] rfl rfl (any_of HT_.out (by kernel_rfl)) (fun _ _ _ h => h) (Or.inr ⟨by rfl, rfl⟩) ?_ ?_
   rotate_left
   · simp only [Act.put, List.setIfInBounds_toArray, List.set_cons_zero, List.set_cons_succ, i64_w, i32_w]
     rfl
   refine pure_ (i := 8) (N := some 13) (v := undef) (a' := ?_) #[true, true, true, true, true, true, true, true, true, false, false, false, false, false, false] rfl rfl (any_of HT_.out (by kernel_rfl)) (fun _ _ _ h => h) (Or.inr ⟨by rfl, rfl⟩) ?_ ?_
   rotate_left
   · simp only [Act.put, List.setIfInBounds_toArray, List.set_cons_zero, List.set_cons_succ, i64_w, i32_w]
     rfl
   refine pure_ (i := 9) (N := some 14) (v := undef) (a' := ?_) #[true, true, true, true, true, true, true, true, true, true, false, false, false, false, false] rfl rfl (any_of HT_.out (by kernel_rfl)) (fun _ _ _ h => h) (Or.inr ⟨by rfl, rfl⟩) ?_ ?_
   rotate_left
   · simp only [Act.put, List.setIfInBounds_toArray, List.set_cons_zero, List.set_cons_succ, i64_w, i32_w]
     rfl
   refine pure_ (i := 10) (N := some 15) (v := undef) (a' := ?_) #[true, true, true, true, true, true, true, true, true, true, true, false, false, false, false] rfl rfl (any_of HT_.out (by kernel_rfl)) (fun _ _ _ h => h) (Or.inr ⟨by rfl, rfl⟩) ?_ ?_
   rotate_left
   · simp only [Act.put, List.setIfInBounds_toArray, List.set_cons_zero, List.set_cons_succ, i64_w, i32_w]
     rfl
   refine pure_ (i := 11) (N := some 16) (v := undef) (a' := ?_) #[true, true, true, true, true, true, true, true, true, true, true, true, false, false, false] rfl rfl (any_of HT_.out (by kernel_rfl)) (fun _ _ _ h => h) (Or.inr ⟨by rfl, rfl⟩) ?_ ?_
   rotate_left
   · simp only [Act.put, List.setIfInBounds_toArray, List.set_cons_zero, List.set_cons_succ, i64_w, i32_w]
     rfl
   refine pure_ (i := 12) (N := some 17) (v := undef) (a' := ?_) #[true, true, true, true, true, true, true, true, true, true, true, true, true, false, false] rfl rfl (any_of HT_.out (by kernel_rfl)) (fun _ _ _ h => h) (Or.inr ⟨by rfl, rfl⟩) ?_ ?_
   rotate_left
   · simp only [Act.put, List.setIfInBounds_toArray, List.set_cons_zero, List.set_cons_succ, i64_w, i32_w]
     rfl
   refine pure_ (i := 13) (N := some 18) (v := ?_) (a' := ?_) #[true, true, true, true, true, true, true, true, true, true, true, true, true, true, false] rfl rfl (any_of HT_.out (by kernel_rfl)) (fun _ _ _ h => h) (Or.inl ⟨by rfl, ?_⟩) ?_ ?_
   rotate_left
   · intro w'
     go_simp
     with_reducible rfl
   rotate_left
   · simp only [Act.put, List.setIfInBounds_toArray, List.set_cons_zero, List.set_cons_succ, i64_w, i32_w]
     rfl
   refine pure_ (i := 14) (N := some 4) (v := ?_) (a' := ?_) #[true, true, true, true, true, true, true, true, true, true, true, true, true, true, true] rfl rfl (any_of HT_.out (by kernel_rfl)) (fun _ _ _ h => h) (Or.inl ⟨by rfl, ?_⟩) ?_ ?_
   rotate_left
   · intro w'
     go_simp
     with_reducible rfl
   rotate_left
   · simp only [Act.put, List.setIfInBounds_toArray, List.set_cons_zero, List.set_cons_succ, i64_w, i32_w]
     rfl
   refine done_ (done_of HT_.out (by kernel_rfl)) ?_
   try go_wp2
   go_ret
   exact ⟨by first | rfl | (simp [errW_none, errW_some] <;> rfl) | (simp [*, errW_none, errW_some] <;> rfl), zB HB⟩
end Go.Proofs.YtjmdlmogdbhdhaaDoor.P
namespace Go.Proofs.YtjmdlmogdbhdhaaDoor.P
open Go.RowKit Go.Proofs.YtjmdlmogdbhdhaaDoorW.PrintWords Go.Proofs.YtjmdlmogdbhdhaaDoorW.PrintLast Go.Proofs.YtjmdlmogdbhdhaaDoorW.PrintMore
attribute [local go_sem] max2_int min2_int max_two min_two max_three min_three max_four min_four   -- for this text's walks alone
set_option linter.unusedVariables false
set_option linter.unusedSimpArgs false
/-! ### network_Net_Attackers: function 84 -/
def network_Net_Attackers.l0 : Nat → Int → List Int → Int → Int → Int → List Int → List Int → Option (Int)
 | 0, _, _, _, _, _, _, _ => none
 | k + 1, x5, x9, x10, x11, x169000, x169001, x169002 => if x11 < x10 then (if 0 ≤ x11 then (if x11 < (x9.length : Int) then (if 0 ≤ (rd x9 x11) then (if (rd x9 x11) < (x169001.length : Int) then (network_Net_Attackers.l0 k (Go.bits .or .u64 x5 (rd x169001 (rd x9 x11))) x9 x10 (wrap64 (x11 + 1)) x169000 x169001 x169002) else (none)) else (none)) else (none)) else (none)) else (some x5)
def network_Net_Attackers.f (k : Nat) (a0_0 : Int) (l0_1 : List Int) (l0_2 : List Int) (a1 : Int) : Option (Int) := (network_Set_List.f k a1).bind fun t169 => (network_Net_Attackers.l0 k 0 t169 (t169.length : Int) 0 a0_0 l0_1 l0_2)
theorem network_Net_Attackers.mono_l : ∀ k, (∀ y0 y1 y2 y3 y4 y5 y6, LeO (network_Net_Attackers.l0 k y0 y1 y2 y3 y4 y5 y6) (network_Net_Attackers.l0 (k + 1) y0 y1 y2 y3 y4 y5 y6))
 | 0 => fun _ _ _ _ _ _ _ r h => by simp [network_Net_Attackers.l0] at h
 | k + 1 => by
  have ih0 := network_Net_Attackers.mono_l k
  · intro y0 y1 y2 y3 y4 y5 y6
    unfold network_Net_Attackers.l0
    repeat' first
    | (with_reducible exact ih0 _ _ _ _ _ _ _)
    | (with_reducible exact network_Set_List.mono _ _)
    | (with_reducible exact LeO.refl _)
    | (with_reducible exact LeO.none _)
    | (with_reducible refine LeO.ite ?_ ?_)
    | (with_reducible refine LeO.bind ?_ (fun _ => ?_))
    | exact ih0 _ _ _ _ _ _ _
    | exact network_Set_List.mono _ _
    | exact LeO.none _
    | refine LeO.ite ?_ ?_
    | refine LeO.bind ?_ (fun _ => ?_)
theorem network_Net_Attackers.mono : ∀ a0 a1 a2 a3 k, LeO (network_Net_Attackers.f k a0 a1 a2 a3) (network_Net_Attackers.f (k + 1) a0 a1 a2 a3) := by
 intro a0 a1 a2 a3 k
 have ih0 := network_Net_Attackers.mono_l k
 unfold network_Net_Attackers.f
 repeat' first
  | (with_reducible exact ih0 _ _ _ _ _ _ _)
  | (with_reducible exact network_Set_List.mono _ _)
  | (with_reducible exact LeO.refl _)
  | (with_reducible exact LeO.none _)
  | (with_reducible refine LeO.ite ?_ ?_)
  | (with_reducible refine LeO.bind ?_ (fun _ => ?_))
  | exact ih0 _ _ _ _ _ _ _
  | exact network_Set_List.mono _ _
  | exact LeO.none _
  | refine LeO.ite ?_ ?_
  | refine LeO.bind ?_ (fun _ => ?_)
set_option maxHeartbeats 8000000 in
set_option maxRecDepth 100000 in
theorem network_Net_Attackers.calls (k : Nat) (a0_0 : Int) (A0_1 : Option Addr) (c0_1 : Nat) (l0_1 : List Int) (A0_2 : Option Addr) (c0_2 : Nat) (l0_2 : List Int) (a1 : Int) (r : Int) (w : World) (hr0_1 : Kd.C (Kd.int .u64) w A0_1 l0_1.length l0_1) (hc0_1 : l0_1.length ≤ c0_1) (hr0_2 : Kd.C (Kd.int .u64) w A0_2 l0_2.length l0_2) (hc0_2 : l0_2.length ≤ c0_2) (hT : TabT w) (h : network_Net_Attackers.f k a0_0 l0_1 l0_2 a1 = some r) :
 Calls Tryd.prog 84 #[.agg #[.int .u64 a0_0, .slice A0_1 l0_1.length c0_1, .slice A0_2 l0_2.length c0_2], .int .u64 a1] w fun e w' => e = .returned (.int .u64 r) ∧ Below w.heap.size w w' := by
 have hu80 := Tryd.underlying80
 have HR0_1 := Aside0.mk hr0_1
 have HC0_1 := Aside0.mk hc0_1
 clear hr0_1 hc0_1
 have HR0_2 := Aside0.mk hr0_2
 have HC0_2 := Aside0.mk hc0_2
 clear hr0_2 hc0_2
 have HTab := Aside0.mk hT
 clear hT
 have HB := Aside0.mk (Below.refl w.heap.size w)
 have H : ((network_Set_List.f k a1).bind fun t169 => (network_Net_Attackers.l0 k 0 t169 (t169.length : Int) 0 a0_0 l0_1 l0_2)) = some r := h
 clear h
 replace H := Option.bind_eq_some_iff.mp H
 obtain ⟨t169, A30, H⟩ := H
 replace H : (network_Net_Attackers.l0 k 0 t169 (t169.length : Int) 0 a0_0 l0_1 l0_2) = some r := H
 have A3 := Aside0.mk A30
 clear A30
 have H' := Aside0.mk H
 clear H
 go_enter Tryd.func84, Tryd.ntmps84
 go_wp2_with (first | ((with_reducible refine gate_dst (N := 2) rfl ?_); refine box_event ?hg (N := 2) ?hd (cs := #[.int .u64 a0_0, .slice A0_1 l0_1.length c0_1, .slice A0_2 l0_2.length c0_2]) (t := 80) ?hr ?_; (case hd => rfl); (case hg => rfl); (case hr => first | (go_simp; done) | (go_simp; rfl)); intro gb168 hg w4 hbox hb; have n0_ := Aside0.mk (below_step (zB HB) hb); have n1_ := Aside0.mk (hbox); have n2_ := Aside0.mk ((by rw [hg]; exact (below_size (zB HB)) : w.heap.size ≤ gb168)); have n3_ := Aside0.mk ((by rw [hg]; exact (below_size (zB HB)) : w.heap.size ≤ gb168)); clear HB; have HB := n0_; have BK168 := n1_; have GW168 := n2_; have GE168 := n3_; clear n0_ n1_ n2_ n3_; clear hb hbox hg) | ((with_reducible refine gate_callee (f := 50) rfl ?_); refine goesL_ (some 9) rfl rfl Tryd.func50 (by kernel_rfl) rfl #[.int .u64 a1] rfl (by (try simp only [List.map_toArray, List.map_cons, List.map_nil]); first | done | rfl | (simp only [List.length_drop, List.length_take]; rfl)) ?_; (with_reducible refine (network_Set_List.calls k a1 t169 _ ?side1 A3.out).mono ?_); (case side1 => exact TabT.now HTab.out (zB HB)); rintro e w5 ⟨v170, rfl, ho0, hb⟩; refine ⟨_, rfl, ?_⟩; have n0_ := Aside0.mk (Kd.R_lower ho0 (below_size (zB HB))); have n1_ := Aside0.mk (blk_below (g := gb168) (o := .cells #[.int .u64 a0_0, .slice A0_1 l0_1.length c0_1, .slice A0_2 l0_2.length c0_2] 80 (0, 0)) (zK BK168) hb); have n2_ := Aside0.mk (below_step (zB HB) hb); clear BK168; clear HB; have HO171 := n0_; have BK168 := n1_; have HB := n2_; clear n0_ n1_ n2_; (try clear hb); (try clear hb2); (try clear hk); (try clear hi); (try clear ho0); obtain ⟨Ao6, co6, eo6⟩ := Kd.R_slice HO171.out; subst eo6))
 go_loopg [5, 11] k (fun kq v5 v11 w' => ∃ (x5_1 : Int) (x11_1 : Int), v5 = .int .u64 x5_1 ∧ v11 = .int .i64 x11_1 ∧ Aside0 (network_Net_Attackers.l0 kq x5_1 t169 (t169.length : Int) x11_1 a0_0 l0_1 l0_2 = some r) ∧ Aside0 (kq ≤ k) ∧ Aside0 (Kd.R (Kd.int .i64) 3 w' w.heap.size (fun _ => True) (.slice Ao6 t169.length co6) t169) ∧ Aside0 (w'.heap[gb168]? = some (.cells #[.int .u64 a0_0, (.slice A0_1 l0_1.length c0_1), (.slice A0_2 l0_2.length c0_2)] 80 (0, 0))) ∧ Aside0 (Below w.heap.size w w'))
 case atStart => exact ⟨(0), (0), (by first | rfl | (simp; done) | (simp [*]; done)), (by first | rfl | (simp; done) | (simp [*]; done)), H', ⟨Nat.le_refl _⟩, ⟨zR HO171⟩, ⟨zK BK168⟩, ⟨zB HB⟩⟩
 case round =>
  clear H'
  try clear p2
  try clear c5
  obtain ⟨x5_1, x11_1, rfl, rfl, HA, HK1, HO_9, BK168, HB⟩ := hrel
  cases gk with
  | zero => exact absurd HA.out (by simp [network_Net_Attackers.l0])
  | succ k1 =>
   have H := HA.out
   clear HA
   simp only [network_Net_Attackers.l0] at H
   by_cases c7 : x11_1 < (t169.length : Int)
   · rw [if_pos c7] at H
     have c7b0 : decide (x11_1 < (t169.length : Int)) = true := decide_eq_true c7
     clear c7
     by_cases c8 : 0 ≤ x11_1
     · rw [if_pos c8] at H
       have c8b0 : decide (0 ≤ x11_1) = true := decide_eq_true c8
       clear c8
       by_cases c9 : x11_1 < (t169.length : Int)
       · rw [if_pos c9] at H
         have c9b0 : decide (x11_1 < (t169.length : Int)) = true := decide_eq_true c9
         clear c9
         by_cases c10 : 0 ≤ (rd t169 x11_1)
         · rw [if_pos c10] at H
           have c10b0 : decide (0 ≤ (rd t169 x11_1)) = true := decide_eq_true c10
           clear c10
           by_cases c11 : (rd t169 x11_1) < (l0_1.length : Int)
           · rw [if_pos c11] at H
             have c11b0 : decide ((rd t169 x11_1) < (l0_1.length : Int)) = true := decide_eq_true c11
             clear c11
             have H' := Aside0.mk H
             clear H
             have p172 : 0 ≤ (x11_1 : Int) := of_decide_eq_true (by first | (with_reducible assumption) | assumption)
             have q172 : x11_1 < (t169.length : Int) := of_decide_eq_true (by first | (with_reducible assumption) | assumption)
             obtain ⟨ad172, e172, hx172_0⟩ := Kd.at_int (Kd.R_reads' HO_9.out).2.2 x11_1 p172 q172
             cases e172
             replace p172 := eq_true p172
             replace q172 := eq_true q172
             have hcz12_0 : wr.cell? ⟨gb168, 0, none⟩ = some (.int .u64 a0_0) := (blk_cell BK168.out 0).trans rfl
             have hcz12_1 : wr.cell? ⟨gb168, 1, none⟩ = some (.slice A0_1 l0_1.length c0_1) := (blk_cell BK168.out 1).trans rfl
             have hcz12_2 : wr.cell? ⟨gb168, 2, none⟩ = some (.slice A0_2 l0_2.length c0_2) := (blk_cell BK168.out 2).trans rfl
             have hfz12_0 := blk_frozen BK168.out 0
             have hfz12_1 := blk_frozen BK168.out 1
             have hfz12_2 := blk_frozen BK168.out 2
             have p173 : 0 ≤ ((rd t169 x11_1) : Int) := of_decide_eq_true (by first | (with_reducible assumption) | assumption)
             have q173 : (rd t169 x11_1) < (l0_1.length : Int) := of_decide_eq_true (by first | (with_reducible assumption) | assumption)
             obtain ⟨ad173, e173, hx173_0⟩ := Kd.at_int HR0_1.out (rd t169 x11_1) p173 q173
             cases e173
             replace hx173_0 := (HB.out.cell (World.block_lt_of_cell? w _ hx173_0)).trans hx173_0
             replace p173 := eq_true p173
             replace q173 := eq_true q173
             go_wp2
             go_roundg k1
             case measure => have := HK1.out; omega
             case rel => exact ⟨(Go.bits .or .u64 x5_1 (rd l0_1 (rd t169 x11_1))), (wrap64 (x11_1 + 1)), (by first | rfl | (simp; done) | (simp [*]; done)), (by first | rfl | (simp; done) | (simp [*]; done)), H', ⟨by have := HK1.out; omega⟩, ⟨zR HO_9⟩, ⟨zK BK168⟩, ⟨zB HB⟩⟩
           · rw [if_neg c11] at H
             exact absurd H (by simp)
         · rw [if_neg c10] at H
           exact absurd H (by simp)
       · rw [if_neg c9] at H
         exact absurd H (by simp)
     · rw [if_neg c8] at H
       exact absurd H (by simp)
   · rw [if_neg c7] at H
     have c7b0 : decide (x11_1 < (t169.length : Int)) = false := decide_eq_false c7
     clear c7
     obtain rfl := Option.some.inj H
     go_wp2
     go_ret
     exact ⟨by first | rfl | (simp [errW_none, errW_some] <;> rfl) | (simp [*, errW_none, errW_some] <;> rfl), zB HB⟩
end Go.Proofs.YtjmdlmogdbhdhaaDoor.P
namespace Go.Proofs.YtjmdlmogdbhdhaaDoor.P
open Go.RowKit Go.Proofs.YtjmdlmogdbhdhaaDoorW.PrintWords Go.Proofs.YtjmdlmogdbhdhaaDoorW.PrintLast Go.Proofs.YtjmdlmogdbhdhaaDoorW.PrintMore
attribute [local go_sem] max2_int min2_int max_two min_two max_three min_three max_four min_four   -- for this text's walks alone
set_option linter.unusedVariables false
set_option linter.unusedSimpArgs false
/-! ### network_Net_Admissible: function 66 -/
def network_Net_Admissible.f (k : Nat) (a0_0 : Int) (l0_1 : List Int) (l0_2 : List Int) (a1 : Int) : Option (Bool) := (network_Net_Free.f k a0_0 l0_1 l0_2 a1).bind fun t175 => (if t175 = true then ((network_Net_Attackers.f k a0_0 l0_1 l0_2 a1).bind fun t176 => ((network_Net_Hit.f k a0_0 l0_1 l0_2 a1).bind fun t177 => (some ((Go.bits .andNot .u64 t176 t177) == 0)))) else (some false))
theorem network_Net_Admissible.mono : ∀ a0 a1 a2 a3 k, LeO (network_Net_Admissible.f k a0 a1 a2 a3) (network_Net_Admissible.f (k + 1) a0 a1 a2 a3) := by
 intro a0 a1 a2 a3 k
 unfold network_Net_Admissible.f
 repeat' first
  | (with_reducible exact network_Net_Attackers.mono _ _ _ _ _)
  | (with_reducible exact network_Net_Free.mono _ _ _ _ _)
  | (with_reducible exact network_Net_Hit.mono _ _ _ _ _)
  | (with_reducible exact LeO.refl _)
  | (with_reducible exact LeO.none _)
  | (with_reducible refine LeO.ite ?_ ?_)
  | (with_reducible refine LeO.bind ?_ (fun _ => ?_))
  | exact network_Net_Attackers.mono _ _ _ _ _
  | exact network_Net_Free.mono _ _ _ _ _
  | exact network_Net_Hit.mono _ _ _ _ _
  | exact LeO.none _
  | refine LeO.ite ?_ ?_
  | refine LeO.bind ?_ (fun _ => ?_)
def network_Net_Admissible.T1 : Bool × List (List Nat × List Nat) := (true, [([], []), ([], []), ([0, 1], [0, 1]), ([2, 2], [2]), ([3], [3]), ([3], [3]), ([4, 5, 3, 3], [3, 4, 5]), ([3], [3]), ([3], [3]), ([7, 8, 6, 3], [3, 7, 8]), ([6, 9, 3], [3, 6, 9]), ([10, 3], [3, 10]), ([3, 11], [3, 11]), ([12, 9, 0, 1, 2, 3, 4, 5, 6, 7, 8, 9, 10, 11, 12], [12])])
def network_Net_Admissible.B1 : List Nat := [0, 0, 3, 7, 15, 15, 63, 15, 15, 511, 1023, 2047, 4095, 8191]
theorem network_Net_Admissible.tab1 : rtab .any (opsOf Tryd.f66 1) = network_Net_Admissible.T1 := by kernel_rfl
theorem network_Net_Admissible.bits1 : waitsOk network_Net_Admissible.T1.2 network_Net_Admissible.B1 = true := by kernel_rfl
set_option maxHeartbeats 8000000 in
set_option maxRecDepth 100000 in
theorem network_Net_Admissible.calls (k : Nat) (a0_0 : Int) (A0_1 : Option Addr) (c0_1 : Nat) (l0_1 : List Int) (A0_2 : Option Addr) (c0_2 : Nat) (l0_2 : List Int) (a1 : Int) (r : Bool) (w : World) (hr0_1 : Kd.C (Kd.int .u64) w A0_1 l0_1.length l0_1) (hc0_1 : l0_1.length ≤ c0_1) (hr0_2 : Kd.C (Kd.int .u64) w A0_2 l0_2.length l0_2) (hc0_2 : l0_2.length ≤ c0_2) (hT : TabT w) (h : network_Net_Admissible.f k a0_0 l0_1 l0_2 a1 = some r) :
 Calls Tryd.prog 66 #[.agg #[.int .u64 a0_0, .slice A0_1 l0_1.length c0_1, .slice A0_2 l0_2.length c0_2], .int .u64 a1] w fun e w' => e = .returned (.bool r) ∧ Below w.heap.size w w' := by
 have hu80 := Tryd.underlying80
 have HR0_1 := Aside0.mk hr0_1
 have HC0_1 := Aside0.mk hc0_1
 clear hr0_1 hc0_1
 have HR0_2 := Aside0.mk hr0_2
 have HC0_2 := Aside0.mk hc0_2
 clear hr0_2 hc0_2
 have HTab := Aside0.mk hT
 clear hT
 have HB := Aside0.mk (Below.refl w.heap.size w)
 have H : ((network_Net_Free.f k a0_0 l0_1 l0_2 a1).bind fun t175 => (if t175 = true then ((network_Net_Attackers.f k a0_0 l0_1 l0_2 a1).bind fun t176 => ((network_Net_Hit.f k a0_0 l0_1 l0_2 a1).bind fun t177 => (some ((Go.bits .andNot .u64 t176 t177) == 0)))) else (some false))) = some r := h
 clear h
 replace H := Option.bind_eq_some_iff.mp H
 obtain ⟨t175, A30, H⟩ := H
 replace H : (if t175 = true then ((network_Net_Attackers.f k a0_0 l0_1 l0_2 a1).bind fun t176 => ((network_Net_Hit.f k a0_0 l0_1 l0_2 a1).bind fun t177 => (some ((Go.bits .andNot .u64 t176 t177) == 0)))) else (some false)) = some r := H
 have A3 := Aside0.mk A30
 clear A30
 by_cases c4 : t175 = true
 · subst c4
   have H1 : ((network_Net_Attackers.f k a0_0 l0_1 l0_2 a1).bind fun t176 => ((network_Net_Hit.f k a0_0 l0_1 l0_2 a1).bind fun t177 => (some ((Go.bits .andNot .u64 t176 t177) == 0)))) = some r := by rw [if_pos rfl] at H; exact H
   clear H
   have H := H1
   clear H1
   replace H := Option.bind_eq_some_iff.mp H
   obtain ⟨t176, A50, H⟩ := H
   replace H : ((network_Net_Hit.f k a0_0 l0_1 l0_2 a1).bind fun t177 => (some ((Go.bits .andNot .u64 t176 t177) == 0))) = some r := H
   have A5 := Aside0.mk A50
   clear A50
   replace H := Option.bind_eq_some_iff.mp H
   obtain ⟨t177, A60, H⟩ := H
   replace H : (some ((Go.bits .andNot .u64 t176 t177) == 0)) = some r := H
   have A6 := Aside0.mk A60
   clear A60
   obtain rfl := Option.some.inj H
   go_enter Tryd.func66, Tryd.ntmps66
   try go_wp2_with (first | ((with_reducible refine gate_dst (N := 2) rfl ?_); refine box_event ?hg (N := 2) ?hd (cs := #[.int .u64 a0_0, .slice A0_1 l0_1.length c0_1, .slice A0_2 l0_2.length c0_2]) (t := 80) ?hr ?_; (case hd => rfl); (case hg => rfl); (case hr => first | (go_simp; done) | (go_simp; rfl)); intro gb174 hg w7 hbox hb; have n0_ := Aside0.mk (below_step (zB HB) hb); have n1_ := Aside0.mk (hbox); have n2_ := Aside0.mk ((by rw [hg]; exact (below_size (zB HB)) : w.heap.size ≤ gb174)); have n3_ := Aside0.mk ((by rw [hg]; exact (below_size (zB HB)) : w.heap.size ≤ gb174)); clear HB; have HB := n0_; have BK174 := n1_; have GW174 := n2_; have GE174 := n3_; clear n0_ n1_ n2_ n3_; clear hb hbox hg))
   have n0_ := Aside0.mk (blk_drew BK174.out)
   have n1_ := Aside0.mk (below_drew1 HB.out)
   clear BK174
   clear HB
   have BK174 := n0_
   have HB := n1_
   clear n0_ n1_
   refine start_ (n := 14) (S := fun w' => w'.cell? ⟨gb174, 0, none⟩ = some (.int .u64 a0_0) ∧ w'.cell? ⟨gb174, 1, none⟩ = some (.slice A0_1 l0_1.length c0_1) ∧ w'.cell? ⟨gb174, 2, none⟩ = some (.slice A0_2 l0_2.length c0_2)) (ds := []) #[false, false, false, false, false, false, false, false, false, false, false, false, false, false] (by kernel_rfl) rfl rfl ⟨(blk_cell BK174.out 0).trans rfl, (blk_cell BK174.out 1).trans rfl, (blk_cell BK174.out 2).trans rfl⟩ (fun hHeld => ?_); refine with_tabW network_Net_Admissible.tab1 network_Net_Admissible.bits1 (fun HT_ HW_ => ?_)
   generalize w7.drew = w8 at BK174 HB hHeld ⊢
   refine pure_ (i := 1) (N := some 6) (v := ?_) (a' := ?_) #[false, true, false, false, false, false, false, false, false, false, false, false, false, false] rfl rfl (any_of HT_.out (by kernel_rfl)) (fun _ _ _ h => h) (Or.inl ⟨by rfl, ?_⟩) ?_ ?_
   rotate_left
   · intro w'
     go_simp
     with_reducible rfl
   rotate_left
   · simp only [Act.put, List.setIfInBounds_toArray, List.set_cons_zero, List.set_cons_succ, i64_w, i32_w]
     rfl
   refine take_ (i := 0) (N := some 5) (v := ?_) (a' := ?_) #[true, true, false, false, false, false, false, false, false, false, false, false, false, false] rfl rfl (take_ofW HT_.out HW_.out (by kernel_rfl)) (fun _ _ _ h => h) (Or.inl ⟨by rfl, ?_⟩) hHeld ?_ ?_
   rotate_left
   · rintro w' ⟨s0, s1, s2⟩
     go_simp
     with_reducible rfl
   rotate_left
   · simp only [Act.put, List.setIfInBounds_toArray, List.set_cons_zero, List.set_cons_succ, i64_w, i32_w]
     rfl
   refine one_ (i := 2) (N := some 7) #[true, true, true, false, false, false, false, false, false, false, false, false, false, false] rfl rfl (one_of HT_.out (by kernel_rfl)) (by decide) (fun K hK => ?_)
   refine goes_ Tryd.func83 (by kernel_rfl) rfl #[.agg #[.int .u64 a0_0, .slice A0_1 l0_1.length c0_1, .slice A0_2 l0_2.length c0_2], .int .u64 a1] (by rfl) rfl rfl (by (try simp only [List.map_toArray, List.map_cons, List.map_nil]); first | done | rfl | (simp only [List.length_drop, List.length_take]; rfl)) ?_
   with_reducible refine (network_Net_Free.calls k a0_0 _ _ l0_1 _ _ l0_2 a1 true _ ?side1 ?side2 ?side3 ?side4 ?side5 A3.out).mono ?_
   (case side1 => repeat (first | exact (Kd.C_below HR0_1.out HB.out) | (with_reducible refine Kd.C_alloc ?_ _) | (with_reducible refine Kd.C_drewN ?_ _) | (with_reducible refine Kd.C_drew ?_)))
   (case side2 => exact HC0_1.out)
   (case side3 => repeat (first | exact (Kd.C_below HR0_2.out HB.out) | (with_reducible refine Kd.C_alloc ?_ _) | (with_reducible refine Kd.C_drewN ?_ _) | (with_reducible refine Kd.C_drew ?_)))
   (case side4 => exact HC0_2.out)
   (case side5 => exact TabT.now HTab.out (zB HB))
   rintro e w9 ⟨rfl, hb⟩
   refine ⟨_, rfl, ?_⟩
   have n0_ := Aside0.mk (blk_below (g := gb174) (o := .cells #[.int .u64 a0_0, .slice A0_1 l0_1.length c0_1, .slice A0_2 l0_2.length c0_2] 80 (0, 0)) (zK BK174) hb)
   have n1_ := Aside0.mk (below_step (zB HB) hb)
   clear BK174
   clear HB
   have BK174 := n0_
   have HB := n1_
   clear n0_ n1_
   (try clear hb)
   (try clear hb2)
   (try clear hk)
   (try clear hi)
   refine hK.out _ _ ⟨(blk_cell BK174.out 0).trans rfl, (blk_cell BK174.out 1).trans rfl, (blk_cell BK174.out 2).trans rfl⟩ (fun hHeld => ?_)
   clear hK K
   refine norm_ (a' := ?_) ?_ ?_
   rotate_left
   · show Act.put _ (some 7) _ = _
     simp only [Act.put, List.setIfInBounds_toArray, List.set_cons_zero, List.set_cons_succ, i64_w, i32_w]
     rfl
   refine pure_ (i := 3) (N := some 8) (v := ?_) (a' := ?_) #[true, true, true, true, false, false, false, false, false, false, false, false, false, false] rfl rfl (any_of HT_.out (by kernel_rfl)) (fun _ _ _ h => h) (Or.inl ⟨by rfl, ?_⟩) ?_ ?_
   rotate_left
   · intro w'
     go_simp
     with_reducible rfl
   rotate_left
   · simp only [Act.put, List.setIfInBounds_toArray, List.set_cons_zero, List.set_cons_succ, i64_w, i32_w]
     rfl
   refine pure_ (i := 5) (N := some 10) (v := ?_) (a' := ?_) #[true, true, true, true, false, true, false, false, false, false, false, false, false, false] rfl rfl (any_of HT_.out (by kernel_rfl)) (fun _ _ _ h => h) (Or.inl ⟨by rfl, ?_⟩) ?_ ?_
   rotate_left
   · intro w'
     go_simp
     with_reducible rfl
   rotate_left
   · simp only [Act.put, List.setIfInBounds_toArray, List.set_cons_zero, List.set_cons_succ, i64_w, i32_w]
     rfl
   refine pure_ (i := 8) (N := some 13) (v := ?_) (a' := ?_) #[true, true, true, true, false, true, false, false, true, false, false, false, false, false] rfl rfl (any_of HT_.out (by kernel_rfl)) (fun _ _ _ h => h) (Or.inl ⟨by rfl, ?_⟩) ?_ ?_
   rotate_left
   · intro w'
     go_simp
     with_reducible rfl
   rotate_left
   · simp only [Act.put, List.setIfInBounds_toArray, List.set_cons_zero, List.set_cons_succ, i64_w, i32_w]
     rfl
   refine take_ (i := 4) (N := some 9) (v := ?_) (a' := ?_) #[true, true, true, true, true, true, false, false, true, false, false, false, false, false] rfl rfl (take_ofW HT_.out HW_.out (by kernel_rfl)) (fun _ _ _ h => h) (Or.inl ⟨by rfl, ?_⟩) hHeld ?_ ?_
   rotate_left
   · rintro w' ⟨s0, s1, s2⟩
     go_simp
     with_reducible rfl
   rotate_left
   · simp only [Act.put, List.setIfInBounds_toArray, List.set_cons_zero, List.set_cons_succ, i64_w, i32_w]
     rfl
   refine take_ (i := 7) (N := some 12) (v := ?_) (a' := ?_) #[true, true, true, true, true, true, false, true, true, false, false, false, false, false] rfl rfl (take_ofW HT_.out HW_.out (by kernel_rfl)) (fun _ _ _ h => h) (Or.inl ⟨by rfl, ?_⟩) hHeld ?_ ?_
   rotate_left
   · rintro w' ⟨s0, s1, s2⟩
     go_simp
     with_reducible rfl
   rotate_left
   · simp only [Act.put, List.setIfInBounds_toArray, List.set_cons_zero, List.set_cons_succ, i64_w, i32_w]
     rfl
   refine one_ (i := 6) (N := some 11) #[true, true, true, true, true, true, true, true, true, false, false, false, false, false] rfl rfl (one_of HT_.out (by kernel_rfl)) (by decide) (fun K hK => ?_)
   refine goes_ Tryd.func84 (by kernel_rfl) rfl #[.agg #[.int .u64 a0_0, .slice A0_1 l0_1.length c0_1, .slice A0_2 l0_2.length c0_2], .int .u64 a1] (by rfl) rfl rfl (by (try simp only [List.map_toArray, List.map_cons, List.map_nil]); first | done | rfl | (simp only [List.length_drop, List.length_take]; rfl)) ?_
   with_reducible refine (network_Net_Attackers.calls k a0_0 _ _ l0_1 _ _ l0_2 a1 t176 _ ?side1 ?side2 ?side3 ?side4 ?side5 A5.out).mono ?_
   (case side1 => repeat (first | exact (Kd.C_below HR0_1.out HB.out) | (with_reducible refine Kd.C_alloc ?_ _) | (with_reducible refine Kd.C_drewN ?_ _) | (with_reducible refine Kd.C_drew ?_)))
   (case side2 => exact HC0_1.out)
   (case side3 => repeat (first | exact (Kd.C_below HR0_2.out HB.out) | (with_reducible refine Kd.C_alloc ?_ _) | (with_reducible refine Kd.C_drewN ?_ _) | (with_reducible refine Kd.C_drew ?_)))
   (case side4 => exact HC0_2.out)
   (case side5 => exact TabT.now HTab.out (zB HB))
   rintro e w10 ⟨rfl, hb⟩
   refine ⟨_, rfl, ?_⟩
   have n0_ := Aside0.mk (blk_below (g := gb174) (o := .cells #[.int .u64 a0_0, .slice A0_1 l0_1.length c0_1, .slice A0_2 l0_2.length c0_2] 80 (0, 0)) (zK BK174) hb)
   have n1_ := Aside0.mk (below_step (zB HB) hb)
   clear BK174
   clear HB
   have BK174 := n0_
   have HB := n1_
   clear n0_ n1_
   (try clear hb)
   (try clear hb2)
   (try clear hk)
   (try clear hi)
   refine hK.out _ _ ⟨(blk_cell BK174.out 0).trans rfl, (blk_cell BK174.out 1).trans rfl, (blk_cell BK174.out 2).trans rfl⟩ (fun hHeld => ?_)
   clear hK K
   refine norm_ (a' := ?_) ?_ ?_
   rotate_left
   · show Act.put _ (some 11) _ = _
     simp only [Act.put, List.setIfInBounds_toArray, List.set_cons_zero, List.set_cons_succ, i64_w, i32_w]
     rfl
   refine one_ (i := 9) (N := some 14) #[true, true, true, true, true, true, true, true, true, true, false, false, false, false] rfl rfl (one_of HT_.out (by kernel_rfl)) (by decide) (fun K hK => ?_)
   refine goes_ Tryd.func79 (by kernel_rfl) rfl #[.agg #[.int .u64 a0_0, .slice A0_1 l0_1.length c0_1, .slice A0_2 l0_2.length c0_2], .int .u64 a1] (by rfl) rfl rfl (by (try simp only [List.map_toArray, List.map_cons, List.map_nil]); first | done | rfl | (simp only [List.length_drop, List.length_take]; rfl)) ?_
   with_reducible refine (network_Net_Hit.calls k a0_0 _ _ l0_1 _ _ l0_2 a1 t177 _ ?side1 ?side2 ?side3 ?side4 ?side5 A6.out).mono ?_
   (case side1 => repeat (first | exact (Kd.C_below HR0_1.out HB.out) | (with_reducible refine Kd.C_alloc ?_ _) | (with_reducible refine Kd.C_drewN ?_ _) | (with_reducible refine Kd.C_drew ?_)))
   (case side2 => exact HC0_1.out)
   (case side3 => repeat (first | exact (Kd.C_below HR0_2.out HB.out) | (with_reducible refine Kd.C_alloc ?_ _) | (with_reducible refine Kd.C_drewN ?_ _) | (with_reducible refine Kd.C_drew ?_)))
   (case side4 => exact HC0_2.out)
   (case side5 => exact TabT.now HTab.out (zB HB))
   rintro e w11 ⟨rfl, hb⟩
   refine ⟨_, rfl, ?_⟩
   have n0_ := Aside0.mk (blk_below (g := gb174) (o := .cells #[.int .u64 a0_0, .slice A0_1 l0_1.length c0_1, .slice A0_2 l0_2.length c0_2] 80 (0, 0)) (zK BK174) hb)
   have n1_ := Aside0.mk (below_step (zB HB) hb)
   clear BK174
   clear HB
   have BK174 := n0_
   have HB := n1_
   clear n0_ n1_
   (try clear hb)
   (try clear hb2)
   (try clear hk)
   (try clear hi)
   refine hK.out _ _ ⟨(blk_cell BK174.out 0).trans rfl, (blk_cell BK174.out 1).trans rfl, (blk_cell BK174.out 2).trans rfl⟩ (fun hHeld => ?_)
   clear hK K
   refine norm_ (a' := ?_) ?_ ?_
   rotate_left
   · show Act.put _ (some 14) _ = _
     simp only [Act.put, List.setIfInBounds_toArray, List.set_cons_zero, List.set_cons_succ, i64_w, i32_w]
     rfl
   refine pure_ (i := 10) (N := some 15) (v := ?_) (a' := ?_) #[true, true, true, true, true, true, true, true, true, true, true, false, false, false] rfl rfl (any_of HT_.out (by kernel_rfl)) (fun _ _ _ h => h) (Or.inl ⟨by rfl, ?_⟩) ?_ ?_
   rotate_left
   · intro w'
     go_simp
     with_reducible rfl
   rotate_left
   · simp only [Act.put, List.setIfInBounds_toArray, List.set_cons_zero, List.set_cons_succ, i64_w, i32_w]
     rfl
   refine pure_ (i := 11) (N := some 16) (v := ?_) (a' := ?_) #[true, true, true, true, true, true, true, true, true, true, true, true, false, false] rfl rfl (any_of HT_.out (by kernel_rfl)) (fun _ _ _ h => h) (Or.inl ⟨by rfl, ?_⟩) ?_ ?_
   rotate_left
   · intro w'
     go_simp
     with_reducible rfl
   rotate_left
   · simp only [Act.put, List.setIfInBounds_toArray, List.set_cons_zero, List.set_cons_succ, i64_w, i32_w]
     rfl
   refine pure_ (i := 12) (N := some 17) (v := ?_) (a' := ?_) #[true, true, true, true, true, true, true, true, true, true, true, true, true, false] rfl rfl (any_of HT_.out (by kernel_rfl)) (fun _ _ _ h => h) (Or.inl ⟨by rfl, ?_⟩) ?_ ?_
   rotate_left
   · intro w'
     go_simp
     with_reducible rfl
   rotate_left
   · simp only [Act.put, List.setIfInBounds_toArray, List.set_cons_zero, List.set_cons_succ, i64_w, i32_w]
     rfl
   refine pure_ (i := 13) (N := some 4) (v := ?_) (a' := ?_) #[true, true, true, true, true, true, true, true, true, true, true, true, true, true] rfl rfl (any_of HT_.out (by kernel_rfl)) (fun _ _ _ h => h) (Or.inl ⟨by rfl, ?_⟩) ?_ ?_
   rotate_left
   · intro w'
     go_simp
     with_reducible rfl
   rotate_left
   · simp only [Act.put, List.setIfInBounds_toArray, List.set_cons_zero, List.set_cons_succ, i64_w, i32_w]
     rfl
   refine done_ (done_of HT_.out (by kernel_rfl)) ?_
   try go_wp2
   go_ret
   exact ⟨by first | rfl | (simp [errW_none, errW_some] <;> rfl) | (simp [*, errW_none, errW_some] <;> rfl), zB HB⟩
 · replace c4 := Bool.eq_false_iff.mpr c4
   subst c4
   have H1 : (some false) = some r := by rw [if_neg (show ¬ (false = true) by decide)] at H; exact H
   clear H
   have H := H1
   clear H1
   obtain rfl := Option.some.inj H
   go_enter Tryd.func66, Tryd.ntmps66
   try go_wp2_with (first | ((with_reducible refine gate_dst (N := 2) rfl ?_); refine box_event ?hg (N := 2) ?hd (cs := #[.int .u64 a0_0, .slice A0_1 l0_1.length c0_1, .slice A0_2 l0_2.length c0_2]) (t := 80) ?hr ?_; (case hd => rfl); (case hg => rfl); (case hr => first | (go_simp; done) | (go_simp; rfl)); intro gb174 hg w12 hbox hb; have n0_ := Aside0.mk (below_step (zB HB) hb); have n1_ := Aside0.mk (hbox); have n2_ := Aside0.mk ((by rw [hg]; exact (below_size (zB HB)) : w.heap.size ≤ gb174)); have n3_ := Aside0.mk ((by rw [hg]; exact (below_size (zB HB)) : w.heap.size ≤ gb174)); clear HB; have HB := n0_; have BK174 := n1_; have GW174 := n2_; have GE174 := n3_; clear n0_ n1_ n2_ n3_; clear hb hbox hg))
   have n0_ := Aside0.mk (blk_drew BK174.out)
   have n1_ := Aside0.mk (below_drew1 HB.out)
   clear BK174
   clear HB
   have BK174 := n0_
   have HB := n1_
   clear n0_ n1_
   refine start_ (n := 14) (S := fun w' => w'.cell? ⟨gb174, 0, none⟩ = some (.int .u64 a0_0) ∧ w'.cell? ⟨gb174, 1, none⟩ = some (.slice A0_1 l0_1.length c0_1) ∧ w'.cell? ⟨gb174, 2, none⟩ = some (.slice A0_2 l0_2.length c0_2)) (ds := []) #[false, false, false, false, false, false, false, false, false, false, false, false, false, false] (by kernel_rfl) rfl rfl ⟨(blk_cell BK174.out 0).trans rfl, (blk_cell BK174.out 1).trans rfl, (blk_cell BK174.out 2).trans rfl⟩ (fun hHeld => ?_); refine with_tabW network_Net_Admissible.tab1 network_Net_Admissible.bits1 (fun HT_ HW_ => ?_)
   generalize w12.drew = w13 at BK174 HB hHeld ⊢
   refine pure_ (i := 1) (N := some 6) (v := ?_) (a' := ?_) #[false, true, false, false, false, false, false, false, false, false, false, false, false, false] rfl rfl (any_of HT_.out (by kernel_rfl)) (fun _ _ _ h => h) (Or.inl ⟨by rfl, ?_⟩) ?_ ?_
   rotate_left
   · intro w'
     go_simp
     with_reducible rfl
   rotate_left
   · simp only [Act.put, List.setIfInBounds_toArray, List.set_cons_zero, List.set_cons_succ, i64_w, i32_w]
     rfl
   refine take_ (i := 0) (N := some 5) (v := ?_) (a' := ?_) #[true, true, false, false, false, false, false, false, false, false, false, false, false, false] rfl rfl (take_ofW HT_.out HW_.out (by kernel_rfl)) (fun _ _ _ h => h) (Or.inl ⟨by rfl, ?_⟩) hHeld ?_ ?_
   rotate_left
   · rintro w' ⟨s0, s1, s2⟩
     go_simp
     with_reducible rfl
   rotate_left
   · simp only [Act.put, List.setIfInBounds_toArray, List.set_cons_zero, List.set_cons_succ, i64_w, i32_w]
     rfl
   refine one_ (i := 2) (N := some 7) #[true, true, true, false, false, false, false, false, false, false, false, false, false, false] rfl rfl (one_of HT_.out (by kernel_rfl)) (by decide) (fun K hK => ?_)
   refine goes_ Tryd.func83 (by kernel_rfl) rfl #[.agg #[.int .u64 a0_0, .slice A0_1 l0_1.length c0_1, .slice A0_2 l0_2.length c0_2], .int .u64 a1] (by rfl) rfl rfl (by (try simp only [List.map_toArray, List.map_cons, List.map_nil]); first | done | rfl | (simp only [List.length_drop, List.length_take]; rfl)) ?_
   with_reducible refine (network_Net_Free.calls k a0_0 _ _ l0_1 _ _ l0_2 a1 false _ ?side1 ?side2 ?side3 ?side4 ?side5 A3.out).mono ?_
   (case side1 => repeat (first | exact (Kd.C_below HR0_1.out HB.out) | (with_reducible refine Kd.C_alloc ?_ _) | (with_reducible refine Kd.C_drewN ?_ _) | (with_reducible refine Kd.C_drew ?_)))
   (case side2 => exact HC0_1.out)
   (case side3 => repeat (first | exact (Kd.C_below HR0_2.out HB.out) | (with_reducible refine Kd.C_alloc ?_ _) | (with_reducible refine Kd.C_drewN ?_ _) | (with_reducible refine Kd.C_drew ?_)))
   (case side4 => exact HC0_2.out)
   (case side5 => exact TabT.now HTab.out (zB HB))
   rintro e w14 ⟨rfl, hb⟩
   refine ⟨_, rfl, ?_⟩
   have n0_ := Aside0.mk (blk_below (g := gb174) (o := .cells #[.int .u64 a0_0, .slice A0_1 l0_1.length c0_1, .slice A0_2 l0_2.length c0_2] 80 (0, 0)) (zK BK174) hb)
   have n1_ := Aside0.mk (below_step (zB HB) hb)
   clear BK174
   clear HB
   have BK174 := n0_
   have HB := n1_
   clear n0_ n1_
   (try clear hb)
   (try clear hb2)
   (try clear hk)
   (try clear hi)
   refine hK.out _ _ ⟨(blk_cell BK174.out 0).trans rfl, (blk_cell BK174.out 1).trans rfl, (blk_cell BK174.out 2).trans rfl⟩ (fun hHeld => ?_)
   clear hK K
   refine norm_ (a' := ?_) ?_ ?_
   rotate_left
   · show Act.put _ (some 7) _ = _
     simp only [Act.put, List.setIfInBounds_toArray, List.set_cons_zero, List.set_cons_succ, i64_w, i32_w]
     rfl
   refine pure_ (i := 3) (N := some 8) (v := ?_) (a' := ?_) #[true, true, true, true, false, false, false, false, false, false, false, false, false, false] rfl rfl (any_of HT_.out (by kernel_rfl)) (fun _ _ _ h => h) (Or.inl ⟨by rfl, ?_⟩) ?_ ?_
   rotate_left
   · intro w'
     go_simp
     with_reducible rfl
   rotate_left
   · simp only [Act.put, List.setIfInBounds_toArray, List.set_cons_zero, List.set_cons_succ, i64_w, i32_w]
     rfl
   refine pure_ (i := 4) (N := some 9) (v := undef) (a' := ?_) #[true, true, true, true, true, false, false, false, false, false, false, false, false, false] rfl rfl (any_of HT_.out (by kernel_rfl)) (fun _ _ _ h => h) (Or.inr ⟨by rfl, rfl⟩) ?_ ?_
   rotate_left
   · simp only [Act.put, List.setIfInBounds_toArray, List.set_cons_zero, List.set_cons_succ, i64_w, i32_w]
     rfl
   refine pure_ (i := 5) (N := some 10) (v := undef) (a' := ?_) #[true, true, true, true, true, true, false, false, false, false, false, false, false, false] rfl rfl (any_of HT_.out (by kernel_rfl)) (fun _ _ _ h => h) (Or.inr ⟨by rfl, rfl⟩) ?_ ?_
   rotate_left
   · simp only [Act.put, List.setIfInBounds_toArray, List.set_cons_zero, List.set_cons_succ, i64_w, i32_w]
     rfl
   refine pure_ (i := 6) (N := some 11) (v := undef) (a' := ?_) #[true, true, true, true, true, true, true, false, false, false, false, false, false, false] rfl rfl (any_of HT_.out (by kernel_rfl)) (fun _ _ _ h => h) (Or.inr ⟨by rfl, rfl⟩) ?_ ?_
   rotate_left
   · simp only [Act.put, List.setIfInBounds_toArray, List.set_cons_zero, List.set_cons_succ, i64_w, i32_w]
     rfl
   refine pure_ (i := 7) (N := some 12) (v := undef) (a' := ?_) #[true, true, true, true, true, true, true, true, false, false, false, false, false, false] rfl rfl (any_of HT_.out (by kernel_rfl)) (fun _ _ _ h => h) (Or.inr ⟨by rfl, rfl⟩) ?_ ?_
   rotate_left
   · simp only [Act.put, List.setIfInBounds_toArray, List.set_cons_zero, List.set_cons_succ, i64_w, i32_w]
     rfl
   refine pure_ (i := 8) (N := some 13) (v := undef) (a' := ?_) #[true, true, true, true, true, true, true, true, true, false, false, false, false, false] rfl rfl (any_of HT_.out (by kernel_rfl)) (fun _ _ _ h => h) (Or.inr ⟨by rfl, rfl⟩) ?_ ?_
   rotate_left
   · simp only [Act.put, List.setIfInBounds_toArray, List.set_cons_zero, List.set_cons_succ, i64_w, i32_w]
     rfl
   refine pure_ (i := 9) (N := some 14) (v := undef) (a' := ?_) #[true, true, true, true, true, true, true, true, true, true, false, false, false, false] rfl rfl (any_of HT_.out (by kernel_rfl)) (fun _ _ _ h => h) (Or.inr ⟨by rfl, rfl⟩) ?_ ?_
   rotate_left
   · simp only [Act.put, List.setIfInBounds_toArray, List.set_cons_zero, List.set_cons_succ, i64_w, i32_w]
     rfl
   refine pure_ (i := 10) (N := some 15) (v := undef) (a' := ?_) #[true, true, true, true, true, true, true, true, true, true, true, false, false, false] rfl rfl (any_of HT_.out (by kernel_rfl)) (fun _ _ _ h => h) (Or.inr ⟨by rfl, rfl⟩) ?_ ?_
   rotate_left
   · simp only [Act.put, List.setIfInBounds_toArray, List.set_cons_zero, List.set_cons_succ, i64_w, i32_w]
     rfl
   refine pure_ (i := 11) (N := some 16) (v := undef) (a' := ?_) #[true, true, true, true, true, true, true, true, true, true, true, true, false, false] rfl rfl (any_of HT_.out (by kernel_rfl)) (fun _ _ _ h => h) (Or.inr ⟨by rfl, rfl⟩) ?_ ?_
   rotate_left
   · simp only [Act.put, List.setIfInBounds_toArray, List.set_cons_zero, List.set_cons_succ, i64_w, i32_w]
     rfl
   refine pure_ (i := 12) (N := some 17) (v := ?_) (a' := ?_) #[true, true, true, true, true, true, true, true, true, true, true, true, true, false] rfl rfl (any_of HT_.out (by kernel_rfl)) (fun _ _ _ h => h) (Or.inl ⟨by rfl, ?_⟩) ?_ ?_
   rotate_left
   · intro w'
     go_simp
     with_reducible rfl
   rotate_left
   · simp only [Act.put, List.setIfInBounds_toArray, List.set_cons_zero, List.set_cons_succ, i64_w, i32_w]
     rfl
   refine pure_ (i := 13) (N := some 4) (v := ?_) (a' := ?_) #[true, true, true, true, true, true, true, true, true, true, true, true, true, true] rfl rfl (any_of HT_.out (by kernel_rfl)) (fun _ _ _ h => h) (Or.inl ⟨by rfl, ?_⟩) ?_ ?_
   rotate_left
   · intro w'
     go_simp
     with_reducible rfl
   rotate_left
   · simp only [Act.put, List.setIfInBounds_toArray, List.set_cons_zero, List.set_cons_succ, i64_w, i32_w]
     rfl
   refine done_ (done_of HT_.out (by kernel_rfl)) ?_
   try go_wp2
   go_ret
   exact ⟨by first | rfl | (simp [errW_none, errW_some] <;> rfl) | (simp [*, errW_none, errW_some] <;> rfl), zB HB⟩
end Go.Proofs.YtjmdlmogdbhdhaaDoor.P
namespace Go.Proofs.YtjmdlmogdbhdhaaDoor.P
open Go.RowKit Go.Proofs.YtjmdlmogdbhdhaaDoorW.PrintWords Go.Proofs.YtjmdlmogdbhdhaaDoorW.PrintLast Go.Proofs.YtjmdlmogdbhdhaaDoorW.PrintMore
attribute [local go_sem] max2_int min2_int max_two min_two max_three min_three max_four min_four   -- for this text's walks alone
set_option linter.unusedVariables false
set_option linter.unusedSimpArgs false
/-! ### enforce_acceptable: function 38 -/
def enforce_acceptable.f (k : Nat) (a0_0 : Int) (l0_1 : List (S42)) (l1 : List Int) (a2 : Int) : Option (Bool) := (network_New.f k a0_0 l0_1).bind fun bt179 => ((network_Of.f k l1).bind fun t186 => (if a2 = 2 then ((network_Net_Stable.f k bt179.1 bt179.2.1 bt179.2.2 t186).bind fun t188 => (some t188)) else ((network_Net_Admissible.f k bt179.1 bt179.2.1 bt179.2.2 t186).bind fun t189 => (some t189))))
theorem enforce_acceptable.mono : ∀ a0 a1 a2 a3 k, LeO (enforce_acceptable.f k a0 a1 a2 a3) (enforce_acceptable.f (k + 1) a0 a1 a2 a3) := by
 intro a0 a1 a2 a3 k
 unfold enforce_acceptable.f
 repeat' first
  | (with_reducible exact network_Net_Admissible.mono _ _ _ _ _)
  | (with_reducible exact network_Net_Stable.mono _ _ _ _ _)
  | (with_reducible exact network_New.mono _ _ _)
  | (with_reducible exact network_Of.mono _ _)
  | (with_reducible exact LeO.refl _)
  | (with_reducible exact LeO.none _)
  | (with_reducible refine LeO.ite ?_ ?_)
  | (with_reducible refine LeO.bind ?_ (fun _ => ?_))
  | exact network_Net_Admissible.mono _ _ _ _ _
  | exact network_Net_Stable.mono _ _ _ _ _
  | exact network_New.mono _ _ _
  | exact network_Of.mono _ _
  | exact LeO.none _
  | refine LeO.ite ?_ ?_
  | refine LeO.bind ?_ (fun _ => ?_)
set_option maxHeartbeats 8000000 in
set_option maxRecDepth 100000 in
theorem enforce_acceptable.calls (k : Nat) (a0_0 : Int) (A0_1 : Option Addr) (c0_1 : Nat) (l0_1 : List (S42)) (A1 : Option Addr) (c1 : Nat) (l1 : List Int) (a2 : Int) (r : Bool) (w : World) (hr0_1 : Kd.C k42 w A0_1 l0_1.length l0_1) (hc0_1 : l0_1.length ≤ c0_1) (hr1 : Kd.C (Kd.int .i64) w A1 l1.length l1) (hc1 : l1.length ≤ c1) (hT : TabT w) (h : enforce_acceptable.f k a0_0 l0_1 l1 a2 = some r) :
 Calls Tryd.prog 38 #[.agg #[.int .i64 a0_0, .slice A0_1 l0_1.length c0_1], .slice A1 l1.length c1, .int .i64 a2] w fun e w' => e = .returned (.bool r) ∧ Below w.heap.size w w' := by
 have hu24 := Tryd.underlying24
 have hu80 := Tryd.underlying80
 have HR0_1 := Aside0.mk hr0_1
 have HC0_1 := Aside0.mk hc0_1
 clear hr0_1 hc0_1
 have HR1 := Aside0.mk hr1
 have HC1 := Aside0.mk hc1
 clear hr1 hc1
 have HTab := Aside0.mk hT
 clear hT
 have HB := Aside0.mk (Below.refl w.heap.size w)
 have H : ((network_New.f k a0_0 l0_1).bind fun bt179 => ((network_Of.f k l1).bind fun t186 => (if a2 = 2 then ((network_Net_Stable.f k bt179.1 bt179.2.1 bt179.2.2 t186).bind fun t188 => (some t188)) else ((network_Net_Admissible.f k bt179.1 bt179.2.1 bt179.2.2 t186).bind fun t189 => (some t189))))) = some r := h
 clear h
 replace H := Option.bind_eq_some_iff.mp H
 obtain ⟨⟨t179, t180, t183⟩, A40, H⟩ := H
 replace H : ((network_Of.f k l1).bind fun t186 => (if a2 = 2 then ((network_Net_Stable.f k t179 t180 t183 t186).bind fun t188 => (some t188)) else ((network_Net_Admissible.f k t179 t180 t183 t186).bind fun t189 => (some t189)))) = some r := H
 have A4 := Aside0.mk A40
 clear A40
 replace H := Option.bind_eq_some_iff.mp H
 obtain ⟨t186, A50, H⟩ := H
 replace H : (if a2 = 2 then ((network_Net_Stable.f k t179 t180 t183 t186).bind fun t188 => (some t188)) else ((network_Net_Admissible.f k t179 t180 t183 t186).bind fun t189 => (some t189))) = some r := H
 have A5 := Aside0.mk A50
 clear A50
 by_cases c6 : a2 = 2
 · rw [if_pos c6] at H
   have c6b0 : (a2 == 2) = true := beq_iff_eq.mpr c6
   have c6b1 : (a2 != 2) = false := bne_eq_false_iff_eq.mpr c6
   clear c6
   replace H := Option.bind_eq_some_iff.mp H
   obtain ⟨t188, A70, H⟩ := H
   replace H : (some t188) = some r := H
   have A7 := Aside0.mk A70
   clear A70
   obtain rfl := Option.some.inj H
   go_enter Tryd.func38, Tryd.ntmps38
   go_wp2_with (first | ((with_reducible refine gate_dst (N := 3) rfl ?_); refine box_event ?hg (N := 3) ?hd (cs := #[.int .i64 a0_0, .slice A0_1 l0_1.length c0_1]) (t := 24) ?hr ?_; (case hd => rfl); (case hg => rfl); (case hr => first | (go_simp; done) | (go_simp; rfl)); intro gb178 hg w8 hbox hb; have n0_ := Aside0.mk (below_step (zB HB) hb); have n1_ := Aside0.mk (hbox); have n2_ := Aside0.mk ((by rw [hg]; exact (below_size (zB HB)) : w.heap.size ≤ gb178)); have n3_ := Aside0.mk ((by rw [hg]; exact (below_size (zB HB)) : w.heap.size ≤ gb178)); clear HB; have HB := n0_; have BK178 := n1_; have GW178 := n2_; have GE178 := n3_; clear n0_ n1_ n2_ n3_; clear hb hbox hg; have hcz9_0 : w8.cell? ⟨gb178, 0, none⟩ = some (.int .i64 a0_0) := (blk_cell BK178.out 0).trans rfl; have hcz9_1 : w8.cell? ⟨gb178, 1, none⟩ = some (.slice A0_1 l0_1.length c0_1) := (blk_cell BK178.out 1).trans rfl; have hfz9_0 := blk_frozen BK178.out 0; have hfz9_1 := blk_frozen BK178.out 1) | ((with_reducible refine gate_callee (f := 49) rfl ?_); refine goesL_ (some 10) rfl rfl Tryd.func49 (by kernel_rfl) rfl #[.agg #[.int .i64 a0_0, .slice A0_1 l0_1.length c0_1]] rfl (by (try simp only [List.map_toArray, List.map_cons, List.map_nil]); first | done | rfl | (simp only [List.length_drop, List.length_take]; rfl)) ?_; (with_reducible refine (network_New.calls k a0_0 _ _ l0_1 t179 t180 t183 _ ?side1 ?side2 A4.out).mono ?_); (case side1 => repeat (first | exact (Kd.C_below HR0_1.out HB.out) | (with_reducible refine Kd.C_alloc ?_ _) | (with_reducible refine Kd.C_drewN ?_ _) | (with_reducible refine Kd.C_drew ?_))); (case side2 => exact HC0_1.out); rintro e w10 ⟨v181, v184, rfl, ho0, ho1, hb⟩; refine ⟨_, rfl, ?_⟩; have n0_ := Aside0.mk (Kd.R_lower ho0 (below_size (zB HB))); have n1_ := Aside0.mk (Kd.R_lower ho1 (below_size (zB HB))); have n2_ := Aside0.mk (blk_below (g := gb178) (o := .cells #[.int .i64 a0_0, .slice A0_1 l0_1.length c0_1] 24 (0, 0)) (zK BK178) hb); have n3_ := Aside0.mk (below_step (zB HB) hb); clear BK178; clear HB; have HO182 := n0_; have HO185 := n1_; have BK178 := n2_; have HB := n3_; clear n0_ n1_ n2_ n3_; (try clear hb); (try clear hb2); (try clear hk); (try clear hi); (try clear ho0); (try clear ho1)) | ((with_reducible refine gate_callee (f := 48) rfl ?_); refine goesL_ (some 12) rfl rfl Tryd.func48 (by kernel_rfl) rfl #[.slice A1 l1.length c1] rfl (by (try simp only [List.map_toArray, List.map_cons, List.map_nil]); first | done | rfl | (simp only [List.length_drop, List.length_take]; rfl)) ?_; (with_reducible refine (network_Of.calls k _ _ l1 t186 _ ?side1 ?side2 A5.out).mono ?_); (case side1 => repeat (first | exact (Kd.C_below HR1.out HB.out) | (with_reducible refine Kd.C_alloc ?_ _) | (with_reducible refine Kd.C_drewN ?_ _) | (with_reducible refine Kd.C_drew ?_))); (case side2 => exact HC1.out); rintro e w' ⟨rfl, ⟨nd, rfl⟩⟩; refine ⟨_, rfl, ?_⟩; (try (rw [drewN_self w10]; generalize hq_ : World.drewN w10 _ = w10; have n0_ : Aside0 (Kd.R (Kd.int .u64) 76 w10 w.heap.size (fun k_ => some k_ ≠ (v184 : Value).ownBlock) v181 t180) := ⟨by rw [← hq_]; exact (zR HO182)⟩; have n1_ : Aside0 (Kd.R (Kd.int .u64) 76 w10 w.heap.size (fun k_ => some k_ ≠ (v181 : Value).ownBlock) v184 t183) := ⟨by rw [← hq_]; exact (zR HO185)⟩; have n2_ : Aside0 (w10.heap[gb178]? = some (.cells #[.int .i64 a0_0, .slice A0_1 l0_1.length c0_1] 24 (0, 0))) := ⟨by rw [← hq_]; exact (zK BK178)⟩; have n3_ : Aside0 (Below w.heap.size w w10) := ⟨by rw [← hq_]; exact (zB HB)⟩; clear HO182 HO185 BK178 HB hq_; have HO182 := n0_; have HO185 := n1_; have BK178 := n2_; have HB := n3_; clear n0_ n1_ n2_ n3_))) | ((with_reducible refine gate_dst (N := 7) rfl ?_); refine box_event ?hg (N := 7) ?hd (cs := #[.int .u64 0, .slice none 0 0, .slice none 0 0]) (t := 80) ?hr ?_; (case hd => rfl); (case hg => rfl); (case hr => first | (go_simp; done) | (go_simp; rfl)); intro gb187 hg w11 hbox hb; have n0_ := Aside0.mk (Kd.R_below (zR HO182) hb); have n1_ := Aside0.mk (Kd.R_below (zR HO185) hb); have n2_ := Aside0.mk (blk_below (g := gb178) (o := .cells #[.int .i64 a0_0, .slice A0_1 l0_1.length c0_1] 24 (0, 0)) (zK BK178) hb); have n3_ := Aside0.mk (below_step (zB HB) hb); have n4_ := Aside0.mk (hbox); have n5_ := Aside0.mk ((by rw [hg]; exact (below_size (zB HB)) : w.heap.size ≤ gb187)); have n6_ := Aside0.mk ((by rw [hg]; exact (below_size (zB HB)) : w.heap.size ≤ gb187)); have n7_ := Aside0.mk ((by rw [hg]; exact Nat.ne_of_lt (blk_lt (g := gb178) (o := .cells #[.int .i64 a0_0, .slice A0_1 l0_1.length c0_1] 24 (0, 0)) (zK BK178)) : gb178 ≠ gb187)); have n8_ := Aside0.mk ((by rw [hg]; exact Nat.ne_of_gt (blk_lt (g := gb178) (o := .cells #[.int .i64 a0_0, .slice A0_1 l0_1.length c0_1] 24 (0, 0)) (zK BK178)) : gb187 ≠ gb178)); clear HO182; clear HO185; clear BK178; clear HB; have HO182 := n0_; have HO185 := n1_; have BK178 := n2_; have HB := n3_; have BK187 := n4_; have GW187 := n5_; have GE187 := n6_; have NB178_187 := n7_; have NB187_178 := n8_; clear n0_ n1_ n2_ n3_ n4_ n5_ n6_ n7_ n8_; clear hb hbox hg; have hnb12 := NB187_178.out; have hnc12 := NB178_187.out; have hcz13_0 : w11.cell? ⟨gb187, 0, none⟩ = some (.int .u64 0) := (blk_cell BK187.out 0).trans rfl; have hcz13_1 : w11.cell? ⟨gb187, 1, none⟩ = some (.slice none 0 0) := (blk_cell BK187.out 1).trans rfl; have hcz13_2 : w11.cell? ⟨gb187, 2, none⟩ = some (.slice none 0 0) := (blk_cell BK187.out 2).trans rfl; have hfz13_0 := blk_frozen BK187.out 0; have hfz13_1 := blk_frozen BK187.out 1; have hfz13_2 := blk_frozen BK187.out 2; obtain ⟨Ao14, co14, eo14⟩ := Kd.R_slice HO182.out; subst eo14; obtain ⟨Ao15, co15, eo15⟩ := Kd.R_slice HO185.out; subst eo15) | ((with_reducible refine gate_callee (f := 65) rfl ?_); refine goesL_ (some 17) rfl rfl Tryd.func65 (by kernel_rfl) rfl #[.agg #[.int .u64 t179, .slice Ao14 t180.length co14, .slice Ao15 t183.length co15], .int .u64 t186] rfl (by (try simp only [List.map_toArray, List.map_cons, List.map_nil]); first | done | rfl | (simp only [List.length_drop, List.length_take]; rfl)) ?_; (with_reducible refine (network_Net_Stable.calls k t179 _ _ t180 _ _ t183 t186 t188 _ ?side1 ?side2 ?side3 ?side4 ?side5 A7.out).mono ?_); (case side1 => refine (Kd.R_reads' (e := 76) (base := w.heap.size) (ok := fun k_ => some k_ ≠ (.slice Ao15 t183.length co15 : Value).ownBlock) (n := t180.length) (c := co14) ?_).2.2; exact (by (with_reducible repeat (first | apply Kd.R_alloc | apply Kd.R_drewN | apply Kd.R_drew)); exact (Kd.R_mono (Kd.R_far (p := ⟨gb187, 2, none⟩) (Kd.R_far (p := ⟨gb187, 1, none⟩) (Kd.R_far (p := ⟨gb187, 0, none⟩) (Kd.R_types HO182.out BK187.out (by decide)) (fun _ hk => hk.2) (.int .u64 t179)) (fun _ hk => hk.2) (.slice Ao14 t180.length co14)) (fun _ hk => hk.2) (.slice Ao15 t183.length co15)) (fun _ h_ => h_.1)))); (case side2 => exact (Kd.R_reads' HO182.out).2.1); (case side3 => refine (Kd.R_reads' (e := 76) (base := w.heap.size) (ok := fun k_ => some k_ ≠ (.slice Ao14 t180.length co14 : Value).ownBlock) (n := t183.length) (c := co15) ?_).2.2; exact (by (with_reducible repeat (first | apply Kd.R_alloc | apply Kd.R_drewN | apply Kd.R_drew)); exact (Kd.R_mono (Kd.R_far (p := ⟨gb187, 2, none⟩) (Kd.R_far (p := ⟨gb187, 1, none⟩) (Kd.R_far (p := ⟨gb187, 0, none⟩) (Kd.R_types HO185.out BK187.out (by decide)) (fun _ hk => hk.2) (.int .u64 t179)) (fun _ hk => hk.2) (.slice Ao14 t180.length co14)) (fun _ hk => hk.2) (.slice Ao15 t183.length co15)) (fun _ h_ => h_.1)))); (case side4 => exact (Kd.R_reads' HO185.out).2.1); (case side5 => exact TabT.now HTab.out (zB HB)); rintro e w16 ⟨rfl, hb⟩; refine ⟨_, rfl, ?_⟩; have n0_ := Aside0.mk (Kd.R_below (by (with_reducible repeat (first | apply Kd.R_alloc | apply Kd.R_drewN | apply Kd.R_drew)); exact (Kd.R_mono (Kd.R_far (p := ⟨gb187, 2, none⟩) (Kd.R_far (p := ⟨gb187, 1, none⟩) (Kd.R_far (p := ⟨gb187, 0, none⟩) (Kd.R_types HO182.out BK187.out (by decide)) (fun _ hk => hk.2) (.int .u64 t179)) (fun _ hk => hk.2) (.slice Ao14 t180.length co14)) (fun _ hk => hk.2) (.slice Ao15 t183.length co15)) (fun _ h_ => h_.1))) hb); have n1_ := Aside0.mk (Kd.R_below (by (with_reducible repeat (first | apply Kd.R_alloc | apply Kd.R_drewN | apply Kd.R_drew)); exact (Kd.R_mono (Kd.R_far (p := ⟨gb187, 2, none⟩) (Kd.R_far (p := ⟨gb187, 1, none⟩) (Kd.R_far (p := ⟨gb187, 0, none⟩) (Kd.R_types HO185.out BK187.out (by decide)) (fun _ hk => hk.2) (.int .u64 t179)) (fun _ hk => hk.2) (.slice Ao14 t180.length co14)) (fun _ hk => hk.2) (.slice Ao15 t183.length co15)) (fun _ h_ => h_.1))) hb); have n2_ := Aside0.mk (blk_below (g := gb178) (o := .cells #[.int .i64 a0_0, .slice A0_1 l0_1.length c0_1] 24 (0, 0)) (by (with_reducible repeat (first | refine blk_drewN ?_ _ | refine blk_drew ?_ | refine blk_alloc ?_ _)); refine blk_far ?_ NB178_187.out _; (with_reducible repeat (first | refine blk_drewN ?_ _ | refine blk_drew ?_ | refine blk_alloc ?_ _)); refine blk_far ?_ NB178_187.out _; (with_reducible repeat (first | refine blk_drewN ?_ _ | refine blk_drew ?_ | refine blk_alloc ?_ _)); refine blk_far ?_ NB178_187.out _; (with_reducible repeat (first | refine blk_drewN ?_ _ | refine blk_drew ?_ | refine blk_alloc ?_ _)); exact BK178.out) hb); have n3_ := Aside0.mk (blk_below (g := gb187) (o := .cells #[.int .u64 t179, .slice Ao14 t180.length co14, .slice Ao15 t183.length co15] 80 (0, 0)) (by (with_reducible repeat (first | refine blk_drewN ?_ _ | refine blk_drew ?_ | refine blk_alloc ?_ _)); refine blk_put (cs := #[.int .u64 t179, .slice Ao14 t180.length co14, .slice none 0 0]) ?_ 2 _ rfl; (with_reducible repeat (first | refine blk_drewN ?_ _ | refine blk_drew ?_ | refine blk_alloc ?_ _)); refine blk_put (cs := #[.int .u64 t179, .slice none 0 0, .slice none 0 0]) ?_ 1 _ rfl; (with_reducible repeat (first | refine blk_drewN ?_ _ | refine blk_drew ?_ | refine blk_alloc ?_ _)); refine blk_put (cs := #[.int .u64 0, .slice none 0 0, .slice none 0 0]) ?_ 0 _ rfl; (with_reducible repeat (first | refine blk_drewN ?_ _ | refine blk_drew ?_ | refine blk_alloc ?_ _)); exact BK187.out) hb); have n4_ := Aside0.mk (below_step (zB HB) hb); clear HO182; clear HO185; clear BK178; clear BK187; clear HB; have HO182 := n0_; have HO185 := n1_; have BK178 := n2_; have BK187 := n3_; have HB := n4_; clear n0_ n1_ n2_ n3_ n4_; (try clear hb); (try clear hb2); (try clear hk); (try clear hi)))
   go_ret
   exact ⟨by first | rfl | (simp [errW_none, errW_some] <;> rfl) | (simp [*, errW_none, errW_some] <;> rfl), zB HB⟩
 · rw [if_neg c6] at H
   have c6b0 : (a2 == 2) = false := beq_eq_false_iff_ne.mpr c6
   have c6b1 : (a2 != 2) = true := bne_iff_ne.mpr c6
   replace H := Option.bind_eq_some_iff.mp H
   obtain ⟨t189, A170, H⟩ := H
   replace H : (some t189) = some r := H
   have A17 := Aside0.mk A170
   clear A170
   obtain rfl := Option.some.inj H
   go_enter Tryd.func38, Tryd.ntmps38
   go_wp2_with (first | ((with_reducible refine gate_dst (N := 3) rfl ?_); refine box_event ?hg (N := 3) ?hd (cs := #[.int .i64 a0_0, .slice A0_1 l0_1.length c0_1]) (t := 24) ?hr ?_; (case hd => rfl); (case hg => rfl); (case hr => first | (go_simp; done) | (go_simp; rfl)); intro gb178 hg w18 hbox hb; have n0_ := Aside0.mk (below_step (zB HB) hb); have n1_ := Aside0.mk (hbox); have n2_ := Aside0.mk ((by rw [hg]; exact (below_size (zB HB)) : w.heap.size ≤ gb178)); have n3_ := Aside0.mk ((by rw [hg]; exact (below_size (zB HB)) : w.heap.size ≤ gb178)); clear HB; have HB := n0_; have BK178 := n1_; have GW178 := n2_; have GE178 := n3_; clear n0_ n1_ n2_ n3_; clear hb hbox hg; have hcz19_0 : w18.cell? ⟨gb178, 0, none⟩ = some (.int .i64 a0_0) := (blk_cell BK178.out 0).trans rfl; have hcz19_1 : w18.cell? ⟨gb178, 1, none⟩ = some (.slice A0_1 l0_1.length c0_1) := (blk_cell BK178.out 1).trans rfl; have hfz19_0 := blk_frozen BK178.out 0; have hfz19_1 := blk_frozen BK178.out 1) | ((with_reducible refine gate_callee (f := 49) rfl ?_); refine goesL_ (some 10) rfl rfl Tryd.func49 (by kernel_rfl) rfl #[.agg #[.int .i64 a0_0, .slice A0_1 l0_1.length c0_1]] rfl (by (try simp only [List.map_toArray, List.map_cons, List.map_nil]); first | done | rfl | (simp only [List.length_drop, List.length_take]; rfl)) ?_; (with_reducible refine (network_New.calls k a0_0 _ _ l0_1 t179 t180 t183 _ ?side1 ?side2 A4.out).mono ?_); (case side1 => repeat (first | exact (Kd.C_below HR0_1.out HB.out) | (with_reducible refine Kd.C_alloc ?_ _) | (with_reducible refine Kd.C_drewN ?_ _) | (with_reducible refine Kd.C_drew ?_))); (case side2 => exact HC0_1.out); rintro e w20 ⟨v181, v184, rfl, ho0, ho1, hb⟩; refine ⟨_, rfl, ?_⟩; have n0_ := Aside0.mk (Kd.R_lower ho0 (below_size (zB HB))); have n1_ := Aside0.mk (Kd.R_lower ho1 (below_size (zB HB))); have n2_ := Aside0.mk (blk_below (g := gb178) (o := .cells #[.int .i64 a0_0, .slice A0_1 l0_1.length c0_1] 24 (0, 0)) (zK BK178) hb); have n3_ := Aside0.mk (below_step (zB HB) hb); clear BK178; clear HB; have HO182 := n0_; have HO185 := n1_; have BK178 := n2_; have HB := n3_; clear n0_ n1_ n2_ n3_; (try clear hb); (try clear hb2); (try clear hk); (try clear hi); (try clear ho0); (try clear ho1)) | ((with_reducible refine gate_callee (f := 48) rfl ?_); refine goesL_ (some 12) rfl rfl Tryd.func48 (by kernel_rfl) rfl #[.slice A1 l1.length c1] rfl (by (try simp only [List.map_toArray, List.map_cons, List.map_nil]); first | done | rfl | (simp only [List.length_drop, List.length_take]; rfl)) ?_; (with_reducible refine (network_Of.calls k _ _ l1 t186 _ ?side1 ?side2 A5.out).mono ?_); (case side1 => repeat (first | exact (Kd.C_below HR1.out HB.out) | (with_reducible refine Kd.C_alloc ?_ _) | (with_reducible refine Kd.C_drewN ?_ _) | (with_reducible refine Kd.C_drew ?_))); (case side2 => exact HC1.out); rintro e w' ⟨rfl, ⟨nd, rfl⟩⟩; refine ⟨_, rfl, ?_⟩; (try (rw [drewN_self w20]; generalize hq_ : World.drewN w20 _ = w20; have n0_ : Aside0 (Kd.R (Kd.int .u64) 76 w20 w.heap.size (fun k_ => some k_ ≠ (v184 : Value).ownBlock) v181 t180) := ⟨by rw [← hq_]; exact (zR HO182)⟩; have n1_ : Aside0 (Kd.R (Kd.int .u64) 76 w20 w.heap.size (fun k_ => some k_ ≠ (v181 : Value).ownBlock) v184 t183) := ⟨by rw [← hq_]; exact (zR HO185)⟩; have n2_ : Aside0 (w20.heap[gb178]? = some (.cells #[.int .i64 a0_0, .slice A0_1 l0_1.length c0_1] 24 (0, 0))) := ⟨by rw [← hq_]; exact (zK BK178)⟩; have n3_ : Aside0 (Below w.heap.size w w20) := ⟨by rw [← hq_]; exact (zB HB)⟩; clear HO182 HO185 BK178 HB hq_; have HO182 := n0_; have HO185 := n1_; have BK178 := n2_; have HB := n3_; clear n0_ n1_ n2_ n3_))) | ((with_reducible refine gate_dst (N := 7) rfl ?_); refine box_event ?hg (N := 7) ?hd (cs := #[.int .u64 0, .slice none 0 0, .slice none 0 0]) (t := 80) ?hr ?_; (case hd => rfl); (case hg => rfl); (case hr => first | (go_simp; done) | (go_simp; rfl)); intro gb187 hg w21 hbox hb; have n0_ := Aside0.mk (Kd.R_below (zR HO182) hb); have n1_ := Aside0.mk (Kd.R_below (zR HO185) hb); have n2_ := Aside0.mk (blk_below (g := gb178) (o := .cells #[.int .i64 a0_0, .slice A0_1 l0_1.length c0_1] 24 (0, 0)) (zK BK178) hb); have n3_ := Aside0.mk (below_step (zB HB) hb); have n4_ := Aside0.mk (hbox); have n5_ := Aside0.mk ((by rw [hg]; exact (below_size (zB HB)) : w.heap.size ≤ gb187)); have n6_ := Aside0.mk ((by rw [hg]; exact (below_size (zB HB)) : w.heap.size ≤ gb187)); have n7_ := Aside0.mk ((by rw [hg]; exact Nat.ne_of_lt (blk_lt (g := gb178) (o := .cells #[.int .i64 a0_0, .slice A0_1 l0_1.length c0_1] 24 (0, 0)) (zK BK178)) : gb178 ≠ gb187)); have n8_ := Aside0.mk ((by rw [hg]; exact Nat.ne_of_gt (blk_lt (g := gb178) (o := .cells #[.int .i64 a0_0, .slice A0_1 l0_1.length c0_1] 24 (0, 0)) (zK BK178)) : gb187 ≠ gb178)); clear HO182; clear HO185; clear BK178; clear HB; have HO182 := n0_; have HO185 := n1_; have BK178 := n2_; have HB := n3_; have BK187 := n4_; have GW187 := n5_; have GE187 := n6_; have NB178_187 := n7_; have NB187_178 := n8_; clear n0_ n1_ n2_ n3_ n4_ n5_ n6_ n7_ n8_; clear hb hbox hg; have hnb22 := NB187_178.out; have hnc22 := NB178_187.out; have hcz23_0 : w21.cell? ⟨gb187, 0, none⟩ = some (.int .u64 0) := (blk_cell BK187.out 0).trans rfl; have hcz23_1 : w21.cell? ⟨gb187, 1, none⟩ = some (.slice none 0 0) := (blk_cell BK187.out 1).trans rfl; have hcz23_2 : w21.cell? ⟨gb187, 2, none⟩ = some (.slice none 0 0) := (blk_cell BK187.out 2).trans rfl; have hfz23_0 := blk_frozen BK187.out 0; have hfz23_1 := blk_frozen BK187.out 1; have hfz23_2 := blk_frozen BK187.out 2; obtain ⟨Ao24, co24, eo24⟩ := Kd.R_slice HO182.out; subst eo24; obtain ⟨Ao25, co25, eo25⟩ := Kd.R_slice HO185.out; subst eo25) | ((with_reducible refine gate_callee (f := 66) rfl ?_); refine goesL_ (some 20) rfl rfl Tryd.func66 (by kernel_rfl) rfl #[.agg #[.int .u64 t179, .slice Ao24 t180.length co24, .slice Ao25 t183.length co25], .int .u64 t186] rfl (by (try simp only [List.map_toArray, List.map_cons, List.map_nil]); first | done | rfl | (simp only [List.length_drop, List.length_take]; rfl)) ?_; (with_reducible refine (network_Net_Admissible.calls k t179 _ _ t180 _ _ t183 t186 t189 _ ?side1 ?side2 ?side3 ?side4 ?side5 A17.out).mono ?_); (case side1 => refine (Kd.R_reads' (e := 76) (base := w.heap.size) (ok := fun k_ => some k_ ≠ (.slice Ao25 t183.length co25 : Value).ownBlock) (n := t180.length) (c := co24) ?_).2.2; exact (by (with_reducible repeat (first | apply Kd.R_alloc | apply Kd.R_drewN | apply Kd.R_drew)); exact (Kd.R_mono (Kd.R_far (p := ⟨gb187, 2, none⟩) (Kd.R_far (p := ⟨gb187, 1, none⟩) (Kd.R_far (p := ⟨gb187, 0, none⟩) (Kd.R_types HO182.out BK187.out (by decide)) (fun _ hk => hk.2) (.int .u64 t179)) (fun _ hk => hk.2) (.slice Ao24 t180.length co24)) (fun _ hk => hk.2) (.slice Ao25 t183.length co25)) (fun _ h_ => h_.1)))); (case side2 => exact (Kd.R_reads' HO182.out).2.1); (case side3 => refine (Kd.R_reads' (e := 76) (base := w.heap.size) (ok := fun k_ => some k_ ≠ (.slice Ao24 t180.length co24 : Value).ownBlock) (n := t183.length) (c := co25) ?_).2.2; exact (by (with_reducible repeat (first | apply Kd.R_alloc | apply Kd.R_drewN | apply Kd.R_drew)); exact (Kd.R_mono (Kd.R_far (p := ⟨gb187, 2, none⟩) (Kd.R_far (p := ⟨gb187, 1, none⟩) (Kd.R_far (p := ⟨gb187, 0, none⟩) (Kd.R_types HO185.out BK187.out (by decide)) (fun _ hk => hk.2) (.int .u64 t179)) (fun _ hk => hk.2) (.slice Ao24 t180.length co24)) (fun _ hk => hk.2) (.slice Ao25 t183.length co25)) (fun _ h_ => h_.1)))); (case side4 => exact (Kd.R_reads' HO185.out).2.1); (case side5 => exact TabT.now HTab.out (zB HB)); rintro e w26 ⟨rfl, hb⟩; refine ⟨_, rfl, ?_⟩; have n0_ := Aside0.mk (Kd.R_below (by (with_reducible repeat (first | apply Kd.R_alloc | apply Kd.R_drewN | apply Kd.R_drew)); exact (Kd.R_mono (Kd.R_far (p := ⟨gb187, 2, none⟩) (Kd.R_far (p := ⟨gb187, 1, none⟩) (Kd.R_far (p := ⟨gb187, 0, none⟩) (Kd.R_types HO182.out BK187.out (by decide)) (fun _ hk => hk.2) (.int .u64 t179)) (fun _ hk => hk.2) (.slice Ao24 t180.length co24)) (fun _ hk => hk.2) (.slice Ao25 t183.length co25)) (fun _ h_ => h_.1))) hb); have n1_ := Aside0.mk (Kd.R_below (by (with_reducible repeat (first | apply Kd.R_alloc | apply Kd.R_drewN | apply Kd.R_drew)); exact (Kd.R_mono (Kd.R_far (p := ⟨gb187, 2, none⟩) (Kd.R_far (p := ⟨gb187, 1, none⟩) (Kd.R_far (p := ⟨gb187, 0, none⟩) (Kd.R_types HO185.out BK187.out (by decide)) (fun _ hk => hk.2) (.int .u64 t179)) (fun _ hk => hk.2) (.slice Ao24 t180.length co24)) (fun _ hk => hk.2) (.slice Ao25 t183.length co25)) (fun _ h_ => h_.1))) hb); have n2_ := Aside0.mk (blk_below (g := gb178) (o := .cells #[.int .i64 a0_0, .slice A0_1 l0_1.length c0_1] 24 (0, 0)) (by (with_reducible repeat (first | refine blk_drewN ?_ _ | refine blk_drew ?_ | refine blk_alloc ?_ _)); refine blk_far ?_ NB178_187.out _; (with_reducible repeat (first | refine blk_drewN ?_ _ | refine blk_drew ?_ | refine blk_alloc ?_ _)); refine blk_far ?_ NB178_187.out _; (with_reducible repeat (first | refine blk_drewN ?_ _ | refine blk_drew ?_ | refine blk_alloc ?_ _)); refine blk_far ?_ NB178_187.out _; (with_reducible repeat (first | refine blk_drewN ?_ _ | refine blk_drew ?_ | refine blk_alloc ?_ _)); exact BK178.out) hb); have n3_ := Aside0.mk (blk_below (g := gb187) (o := .cells #[.int .u64 t179, .slice Ao24 t180.length co24, .slice Ao25 t183.length co25] 80 (0, 0)) (by (with_reducible repeat (first | refine blk_drewN ?_ _ | refine blk_drew ?_ | refine blk_alloc ?_ _)); refine blk_put (cs := #[.int .u64 t179, .slice Ao24 t180.length co24, .slice none 0 0]) ?_ 2 _ rfl; (with_reducible repeat (first | refine blk_drewN ?_ _ | refine blk_drew ?_ | refine blk_alloc ?_ _)); refine blk_put (cs := #[.int .u64 t179, .slice none 0 0, .slice none 0 0]) ?_ 1 _ rfl; (with_reducible repeat (first | refine blk_drewN ?_ _ | refine blk_drew ?_ | refine blk_alloc ?_ _)); refine blk_put (cs := #[.int .u64 0, .slice none 0 0, .slice none 0 0]) ?_ 0 _ rfl; (with_reducible repeat (first | refine blk_drewN ?_ _ | refine blk_drew ?_ | refine blk_alloc ?_ _)); exact BK187.out) hb); have n4_ := Aside0.mk (below_step (zB HB) hb); clear HO182; clear HO185; clear BK178; clear BK187; clear HB; have HO182 := n0_; have HO185 := n1_; have BK178 := n2_; have BK187 := n3_; have HB := n4_; clear n0_ n1_ n2_ n3_ n4_; (try clear hb); (try clear hb2); (try clear hk); (try clear hi)))
   go_ret
   exact ⟨by first | rfl | (simp [errW_none, errW_some] <;> rfl) | (simp [*, errW_none, errW_some] <;> rfl), zB HB⟩
end Go.Proofs.YtjmdlmogdbhdhaaDoor.P
namespace Go.Proofs.YtjmdlmogdbhdhaaDoor.P
open Go.RowKit Go.Proofs.YtjmdlmogdbhdhaaDoorW.PrintWords Go.Proofs.YtjmdlmogdbhdhaaDoorW.PrintLast Go.Proofs.YtjmdlmogdbhdhaaDoorW.PrintMore
attribute [local go_sem] max2_int min2_int max_two min_two max_three min_three max_four min_four   -- for this text's walks alone
set_option linter.unusedVariables false
set_option linter.unusedSimpArgs false
/-! ### network_Set_Has: function 77 -/
def network_Set_Has.f (a0 : Int) (a1 : Int) : Option (Bool) := if 0 ≤ (IntKind.u64.wrap (a1)) then (some ((Go.bits .and .u64 (shr .u64 a0 (IntKind.u64.wrap (a1))) 1) == 1)) else (none)
set_option maxHeartbeats 8000000 in
set_option maxRecDepth 100000 in
theorem network_Set_Has.calls (a0 : Int) (a1 : Int) (r : Bool) (w : World) (h : network_Set_Has.f a0 a1 = some r) :
 Calls Tryd.prog 77 #[.int .u64 a0, .int .i64 a1] w fun e w' => e = .returned (.bool r) ∧ Drawn0 w w' := by
 have H : (if 0 ≤ (IntKind.u64.wrap (a1)) then (some ((Go.bits .and .u64 (shr .u64 a0 (IntKind.u64.wrap (a1))) 1) == 1)) else (none)) = some r := h
 clear h
 obtain ⟨ji3, hji3⟩ : ∃ j_ : Int, (IntKind.u64.wrap (a1)) = j_ := ⟨_, rfl⟩
 replace H : (if 0 ≤ (ji3) then (some ((Go.bits .and .u64 (shr .u64 a0 (ji3)) 1) == 1)) else (none)) = some r := by first | (rw [hji3] at H; exact H) | (simp only [hji3] at H ⊢; exact H)
 by_cases c4 : 0 ≤ (ji3)
 · rw [if_pos c4] at H
   have c4b0 := eq_true c4
   have c4b1 : decide (0 ≤ (ji3)) = true := decide_eq_true c4
   clear c4
   obtain ⟨ji5, hji5⟩ : ∃ j_ : Int, (shr .u64 a0 (ji3)) = j_ := ⟨_, rfl⟩
   replace H : (some ((Go.bits .and .u64 (ji5) 1) == 1)) = some r := by first | (rw [hji5] at H; exact H) | (simp only [hji5] at H ⊢; exact H)
   have hji5_ : (a0 / 2 ^ min (ji3).toNat 64) = ji5 := hji5
   have hji5z : (ji3) ≤ 64 → (a0 / 2 ^ (ji3).toNat) = ji5 := shr_small hji5
   obtain rfl := Option.some.inj H
   go_enter Tryd.func77, Tryd.ntmps77
   go_wp2
   go_ret
   exact ⟨by first | rfl | (simp; done) | (simp only [← hji3, ← hji5] <;> (first | rfl | simp)) | (simp [*]; done), by repeat (first | exact Drawn0.refl _ | apply Drawn0.step)⟩
 · rw [if_neg c4] at H
   exact absurd H (by simp)
end Go.Proofs.YtjmdlmogdbhdhaaDoor.P
