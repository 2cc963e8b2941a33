import Derived.Test.YtjmdlmogdbhdhaaDoorA2
import Derived.Test.YtjmdlmogdbhdhaaDoorA3
import Derived.Test.YtjmdlmogdbhdhaaDoorA4
namespace Go.Proofs.YtjmdlmogdbhdhaaDoor.P
open Go.RowKit Go.Proofs.YtjmdlmogdbhdhaaDoorW.PrintWords Go.Proofs.YtjmdlmogdbhdhaaDoorW.PrintLast Go.Proofs.YtjmdlmogdbhdhaaDoorW.PrintMore
attribute [local go_sem] max2_int min2_int max_two min_two max_three min_three max_four min_four   -- for this text's walks alone
set_option linter.unusedVariables false
set_option linter.unusedSimpArgs false
/-! ### enforce_strict: function 47 -/
mutual
def enforce_strict.l0 : Nat → List Int → Int → List (List (S42)) → Int → Int → List Int → List (S42) → List (List (S42)) → Option (List Int × (List (S42)) × (List (List (S42))))
 | 0, _, _, _, _, _, _, _, _ => none
 | k + 1, x1, x7, x23, x24, x25, x260000, x260001, x260002 => if x25 < x24 then (if 0 ≤ x25 then (if x25 < (x23.length : Int) then (if 0 < ((rd_L2 x23 x25).length : Int) then ((network_Set_Has.f x7 ((rd_T42 (rd_L2 x23 x25) 0).f0)).bind fun t263 => (if t263 = true then ((network_Set_Has.f x7 ((rd_T42 (rd_L2 x23 x25) 0).f1)).bind fun t264 => (enforce_strict.j1 k x1 x7 x23 x24 x25 (!t264) x260000 x260001 x260002 ((rd_T42 (rd_L2 x23 x25) 0).f0) ((rd_T42 (rd_L2 x23 x25) 0).f1))) else (enforce_strict.j1 k x1 x7 x23 x24 x25 true x260000 x260001 x260002 ((rd_T42 (rd_L2 x23 x25) 0).f0) ((rd_T42 (rd_L2 x23 x25) 0).f1)))) else (none)) else (none)) else (none)) else (some (x260000, x260001, x260002))
def enforce_strict.j1 : Nat → List Int → Int → List (List (S42)) → Int → Int → Bool → List Int → List (S42) → List (List (S42)) → Int → Int → Option (List Int × (List (S42)) × (List (List (S42))))
 | 0, _, _, _, _, _, _, _, _, _, _, _ => none
 | k + 1, x1, x7, x23, x24, x25, x43, x260000, x260001, x260002, x263000, x263001 => if x43 = true then ((network_Set_Has.f x7 x263001).bind fun t265 => (if t265 = true then (if 0 < (x1.length : Int) then (if x260001.length < 8796093022208 then (enforce_strict.l0 k x1 x7 x23 x24 (wrap64 (x25 + 1)) x260000 (x260001 ++ [(⟨rd x1 0, x263000⟩ : S42)]) x260002) else (none)) else (none)) else (if 0 < (x1.length : Int) then (if x260001.length < 8796093022208 then (enforce_strict.l0 k x1 x7 x23 x24 (wrap64 (x25 + 1)) x260000 (x260001 ++ [(⟨rd x1 0, x263001⟩ : S42)]) x260002) else (none)) else (none)))) else (if x260001.length < 8796093022208 then (enforce_strict.l0 k x1 x7 x23 x24 (wrap64 (x25 + 1)) x260000 (x260001 ++ [(⟨x263000, x263001⟩ : S42)]) x260002) else (none))
end
def enforce_strict.f (k : Nat) (a0_0 : Int) (l0_1 : List (S42)) (l1 : List Int) (a2 : Int) : Option (List Int × (List (S42)) × (List (List (S42)))) := (network_Of.f k l1).bind fun t252 => ((slices_Clone_int_int.f l1).bind fun t253 => ((enforce_duties.f k a0_0 l0_1 l1 a2).bind fun t256 => (enforce_strict.l0 k l1 t252 t256 (t256.length : Int) 0 t253 ([] : List (S42)) t256)))
theorem enforce_strict.mono_l : ∀ k, (∀ y0 y1 y2 y3 y4 y5 y6 y7, LeO (enforce_strict.l0 k y0 y1 y2 y3 y4 y5 y6 y7) (enforce_strict.l0 (k + 1) y0 y1 y2 y3 y4 y5 y6 y7)) ∧ (∀ y0 y1 y2 y3 y4 y5 y6 y7 y8 y9 y10, LeO (enforce_strict.j1 k y0 y1 y2 y3 y4 y5 y6 y7 y8 y9 y10) (enforce_strict.j1 (k + 1) y0 y1 y2 y3 y4 y5 y6 y7 y8 y9 y10))
 | 0 => ⟨fun _ _ _ _ _ _ _ _ r h => by simp [enforce_strict.l0] at h, fun _ _ _ _ _ _ _ _ _ _ _ r h => by simp [enforce_strict.j1] at h⟩
 | k + 1 => by
  obtain ⟨ih0, ih1⟩ := enforce_strict.mono_l k
  refine ⟨?_, ?_⟩
  · intro y0 y1 y2 y3 y4 y5 y6 y7
    unfold enforce_strict.l0
    repeat' first
    | (with_reducible exact ih0 _ _ _ _ _ _ _ _)
    | (with_reducible exact ih1 _ _ _ _ _ _ _ _ _ _ _)
    | (with_reducible exact enforce_duties.mono _ _ _ _ _)
    | (with_reducible exact network_Of.mono _ _)
    | (with_reducible exact LeO.refl _)
    | (with_reducible exact LeO.none _)
    | (with_reducible refine LeO.ite ?_ ?_)
    | (with_reducible refine LeO.bind ?_ (fun _ => ?_))
    | exact ih0 _ _ _ _ _ _ _ _
    | exact ih1 _ _ _ _ _ _ _ _ _ _ _
    | exact enforce_duties.mono _ _ _ _ _
    | exact network_Of.mono _ _
    | exact LeO.none _
    | refine LeO.ite ?_ ?_
    | refine LeO.bind ?_ (fun _ => ?_)
  · intro y0 y1 y2 y3 y4 y5 y6 y7 y8 y9 y10
    unfold enforce_strict.j1
    repeat' first
    | (with_reducible exact ih0 _ _ _ _ _ _ _ _)
    | (with_reducible exact ih1 _ _ _ _ _ _ _ _ _ _ _)
    | (with_reducible exact enforce_duties.mono _ _ _ _ _)
    | (with_reducible exact network_Of.mono _ _)
    | (with_reducible exact LeO.refl _)
    | (with_reducible exact LeO.none _)
    | (with_reducible refine LeO.ite ?_ ?_)
    | (with_reducible refine LeO.bind ?_ (fun _ => ?_))
    | exact ih0 _ _ _ _ _ _ _ _
    | exact ih1 _ _ _ _ _ _ _ _ _ _ _
    | exact enforce_duties.mono _ _ _ _ _
    | exact network_Of.mono _ _
    | exact LeO.none _
    | refine LeO.ite ?_ ?_
    | refine LeO.bind ?_ (fun _ => ?_)
theorem enforce_strict.mono : ∀ a0 a1 a2 a3 k, LeO (enforce_strict.f k a0 a1 a2 a3) (enforce_strict.f (k + 1) a0 a1 a2 a3) := by
 intro a0 a1 a2 a3 k
 obtain ⟨ih0, ih1⟩ := enforce_strict.mono_l k
 unfold enforce_strict.f
 repeat' first
  | (with_reducible exact ih0 _ _ _ _ _ _ _ _)
  | (with_reducible exact ih1 _ _ _ _ _ _ _ _ _ _ _)
  | (with_reducible exact enforce_duties.mono _ _ _ _ _)
  | (with_reducible exact network_Of.mono _ _)
  | (with_reducible exact LeO.refl _)
  | (with_reducible exact LeO.none _)
  | (with_reducible refine LeO.ite ?_ ?_)
  | (with_reducible refine LeO.bind ?_ (fun _ => ?_))
  | exact ih0 _ _ _ _ _ _ _ _
  | exact ih1 _ _ _ _ _ _ _ _ _ _ _
  | exact enforce_duties.mono _ _ _ _ _
  | exact network_Of.mono _ _
  | exact LeO.none _
  | refine LeO.ite ?_ ?_
  | refine LeO.bind ?_ (fun _ => ?_)
def enforce_strict.T2 : Bool × List (List Nat × List Nat) := (true, [([], []), ([0], [0]), ([], []), ([], []), ([], []), ([2, 3, 4, 1], [2, 3, 4]), ([1, 5], [1, 5]), ([], []), ([7, 6, 5, 0, 1, 2, 3, 4, 5, 6, 7], [6, 7])])
def enforce_strict.B2 : List Nat := [0, 1, 0, 0, 0, 31, 63, 0, 255]
theorem enforce_strict.tab2 : rtab .any (opsOf Tryd.f47 2) = enforce_strict.T2 := by kernel_rfl
theorem enforce_strict.bits2 : waitsOk enforce_strict.T2.2 enforce_strict.B2 = true := by kernel_rfl
set_option maxHeartbeats 8000000 in
set_option maxRecDepth 100000 in
theorem enforce_strict.calls (k : Nat) (a0_0 : Int) (A0_1 : Option Addr) (c0_1 : Nat) (l0_1 : List (S42)) (A1 : Option Addr) (c1 : Nat) (l1 : List Int) (a2 : Int) (r1 : List Int) (r2 : List (S42)) (r3 : List (List (S42))) (w : World) (hr0_1 : Kd.C k42 w A0_1 l0_1.length l0_1) (hc0_1 : l0_1.length ≤ c0_1) (hr1 : Kd.C (Kd.int .i64) w A1 l1.length l1) (hc1 : l1.length ≤ c1) (hT : TabT w) (h : enforce_strict.f k a0_0 l0_1 l1 a2 = some (r1, r2, r3)) :
 Calls Tryd.prog 47 #[.agg #[.int .i64 a0_0, .slice A0_1 l0_1.length c0_1], .slice A1 l1.length c1, .int .i64 a2] w fun e w' => ∃ v0_ v1_ v2_ : Value, e = .returned (.agg #[v0_, v1_, v2_]) ∧ Kd.R (Kd.int .i64) 3 w' w.heap.size (fun _ => True) v0_ r1 ∧ Kd.R k42 42 w' w.heap.size (fun _ => True) v1_ r2 ∧ Kd.S (Kd.slice 42 k42) 22 w' w.heap.size (fun k_ => some k_ ≠ (v1_ : Value).ownBlock) v2_ r3 ∧ Below w.heap.size w w' := by
 have hu24 := Tryd.underlying24
 have hu28 := Tryd.underlying28
 have hu42 := Tryd.underlying42
 have HR0_1 := Aside0.mk hr0_1
 have HC0_1 := Aside0.mk hc0_1
 clear hr0_1 hc0_1
 have HR1 := Aside0.mk hr1
 have HC1 := Aside0.mk hc1
 clear hr1 hc1
 have HTab := Aside0.mk hT
 clear hT
 have HB := Aside0.mk (Below.refl w.heap.size w)
 have H : ((network_Of.f k l1).bind fun t252 => ((slices_Clone_int_int.f l1).bind fun t253 => ((enforce_duties.f k a0_0 l0_1 l1 a2).bind fun t256 => (enforce_strict.l0 k l1 t252 t256 (t256.length : Int) 0 t253 ([] : List (S42)) t256)))) = some (r1, r2, r3) := h
 clear h
 replace H := Option.bind_eq_some_iff.mp H
 obtain ⟨t252, A40, H⟩ := H
 replace H : ((slices_Clone_int_int.f l1).bind fun t253 => ((enforce_duties.f k a0_0 l0_1 l1 a2).bind fun t256 => (enforce_strict.l0 k l1 t252 t256 (t256.length : Int) 0 t253 ([] : List (S42)) t256))) = some (r1, r2, r3) := H
 have A4 := Aside0.mk A40
 clear A40
 replace H := Option.bind_eq_some_iff.mp H
 obtain ⟨t253, A50, H⟩ := H
 replace H : ((enforce_duties.f k a0_0 l0_1 l1 a2).bind fun t256 => (enforce_strict.l0 k l1 t252 t256 (t256.length : Int) 0 t253 ([] : List (S42)) t256)) = some (r1, r2, r3) := H
 have A5 := Aside0.mk A50
 clear A50
 replace H := Option.bind_eq_some_iff.mp H
 obtain ⟨t256, A60, H⟩ := H
 replace H : (enforce_strict.l0 k l1 t252 t256 (t256.length : Int) 0 t253 ([] : List (S42)) t256) = some (r1, r2, r3) := H
 have A6 := Aside0.mk A60
 clear A60
 have H' := Aside0.mk H
 clear H
 go_enter Tryd.func47, Tryd.ntmps47
 try go_wp2_with (first | ((with_reducible refine gate_dst (N := 3) rfl ?_); refine box_event ?hg (N := 3) ?hd (cs := #[.int .i64 a0_0, .slice A0_1 l0_1.length c0_1]) (t := 24) ?hr ?_; (case hd => rfl); (case hg => rfl); (case hr => first | (go_simp; done) | (go_simp; rfl)); intro gb250 hg w7 hbox hb; have n0_ := Aside0.mk (below_step (zB HB) hb); have n1_ := Aside0.mk (hbox); have n2_ := Aside0.mk ((by rw [hg]; exact (below_size (zB HB)) : w.heap.size ≤ gb250)); have n3_ := Aside0.mk ((by rw [hg]; exact (below_size (zB HB)) : w.heap.size ≤ gb250)); clear HB; have HB := n0_; have BK250 := n1_; have GW250 := n2_; have GE250 := n3_; clear n0_ n1_ n2_ n3_; clear hb hbox hg) | ((with_reducible refine gate_dst (N := 6) rfl ?_); refine box_event ?hg (N := 6) ?hd (cs := #[.slice none 0 0, .slice none 0 0, .slice none 0 0]) (t := 28) ?hr ?_; (case hd => rfl); (case hg => rfl); (case hr => first | (go_simp; done) | (go_simp; rfl)); intro gb251 hg w8 hbox hb; have n0_ := Aside0.mk (blk_below (g := gb250) (o := .cells #[.int .i64 a0_0, .slice A0_1 l0_1.length c0_1] 24 (0, 0)) (zK BK250) hb); have n1_ := Aside0.mk (below_step (zB HB) hb); have n2_ := Aside0.mk (hbox); have n3_ := Aside0.mk ((by rw [hg]; exact (below_size (zB HB)) : w.heap.size ≤ gb251)); have n4_ := Aside0.mk ((by rw [hg]; exact (below_size (zB HB)) : w.heap.size ≤ gb251)); have n5_ := Aside0.mk ((by rw [hg]; exact Nat.ne_of_lt (blk_lt (g := gb250) (o := .cells #[.int .i64 a0_0, .slice A0_1 l0_1.length c0_1] 24 (0, 0)) (zK BK250)) : gb250 ≠ gb251)); have n6_ := Aside0.mk ((by rw [hg]; exact Nat.ne_of_gt (blk_lt (g := gb250) (o := .cells #[.int .i64 a0_0, .slice A0_1 l0_1.length c0_1] 24 (0, 0)) (zK BK250)) : gb251 ≠ gb250)); clear BK250; clear HB; have BK250 := n0_; have HB := n1_; have BK251 := n2_; have GW251 := n3_; have GE251 := n4_; have NB250_251 := n5_; have NB251_250 := n6_; clear n0_ n1_ n2_ n3_ n4_ n5_ n6_; clear hb hbox hg) | ((with_reducible refine gate_callee (f := 48) rfl ?_); refine goesL_ (some 14) rfl rfl Tryd.func48 (by kernel_rfl) rfl #[.slice A1 l1.length c1] rfl (by (try simp only [List.map_toArray, List.map_cons, List.map_nil]); first | done | rfl | (simp only [List.length_drop, List.length_take]; rfl)) ?_; (with_reducible refine (network_Of.calls k _ _ l1 t252 _ ?side1 ?side2 A4.out).mono ?_); (case side1 => repeat (first | exact (Kd.C_below HR1.out HB.out) | (with_reducible refine Kd.C_alloc ?_ _) | (with_reducible refine Kd.C_drewN ?_ _) | (with_reducible refine Kd.C_drew ?_))); (case side2 => exact HC1.out); rintro e w' ⟨rfl, ⟨nd, rfl⟩⟩; refine ⟨_, rfl, ?_⟩; (try (rw [drewN_self w8]; generalize hq_ : World.drewN w8 _ = w8; have n0_ : Aside0 (w8.heap[gb250]? = some (.cells #[.int .i64 a0_0, .slice A0_1 l0_1.length c0_1] 24 (0, 0))) := ⟨by rw [← hq_]; exact (zK BK250)⟩; have n1_ : Aside0 (w8.heap[gb251]? = some (.cells #[.slice none 0 0, .slice none 0 0, .slice none 0 0] 28 (0, 0))) := ⟨by rw [← hq_]; exact (zK BK251)⟩; have n2_ : Aside0 (Below w.heap.size w w8) := ⟨by rw [← hq_]; exact (zB HB)⟩; clear BK250 BK251 HB hq_; have BK250 := n0_; have BK251 := n1_; have HB := n2_; clear n0_ n1_ n2_))))
 have n0_ := Aside0.mk (blk_drew BK250.out)
 have n1_ := Aside0.mk (blk_drew BK251.out)
 have n2_ := Aside0.mk (below_drew1 HB.out)
 clear BK250
 clear BK251
 clear HB
 have BK250 := n0_
 have BK251 := n1_
 have HB := n2_
 clear n0_ n1_ n2_
 refine start_ (n := 9) (S := fun w' => w'.cell? ⟨gb250, 0, none⟩ = some (.int .i64 a0_0) ∧ w'.cell? ⟨gb250, 1, none⟩ = some (.slice A0_1 l0_1.length c0_1)) (ds := []) #[false, false, false, false, false, false, false, false, false] (by kernel_rfl) rfl rfl ⟨(blk_cell BK250.out 0).trans rfl, (blk_cell BK250.out 1).trans rfl⟩ (fun hHeld => ?_); refine with_tabW enforce_strict.tab2 enforce_strict.bits2 (fun HT_ HW_ => ?_)
 generalize w8.drew = w9 at BK250 BK251 HB hHeld ⊢
 refine pure_ (i := 0) (N := some 15) (v := ?_) (a' := ?_) #[true, false, false, false, false, false, false, false, false] rfl rfl (any_of HT_.out (by kernel_rfl)) (fun _ _ _ h => h) (Or.inl ⟨by rfl, ?_⟩) ?_ ?_
 rotate_left
 · intro w'
   go_simp
   with_reducible rfl
 rotate_left
 · simp only [Act.put, List.setIfInBounds_toArray, List.set_cons_zero, List.set_cons_succ, i64_w, i32_w]
   rfl
 refine pure_ (i := 3) (N := some 18) (v := ?_) (a' := ?_) #[true, false, false, true, false, false, false, false, false] rfl rfl (any_of HT_.out (by kernel_rfl)) (fun _ _ _ h => h) (Or.inl ⟨by rfl, ?_⟩) ?_ ?_
 rotate_left
 · intro w'
   go_simp
   with_reducible rfl
 rotate_left
 · simp only [Act.put, List.setIfInBounds_toArray, List.set_cons_zero, List.set_cons_succ, i64_w, i32_w]
   rfl
 refine pure_ (i := 4) (N := some 19) (v := ?_) (a' := ?_) #[true, false, false, true, true, false, false, false, false] rfl rfl (any_of HT_.out (by kernel_rfl)) (fun _ _ _ h => h) (Or.inl ⟨by rfl, ?_⟩) ?_ ?_
 rotate_left
 · intro w'
   go_simp
   with_reducible rfl
 rotate_left
 · simp only [Act.put, List.setIfInBounds_toArray, List.set_cons_zero, List.set_cons_succ, i64_w, i32_w]
   rfl
 refine take_ (i := 2) (N := some 17) (v := ?_) (a' := ?_) #[true, false, true, true, true, false, false, false, false] rfl rfl (take_ofW HT_.out HW_.out (by kernel_rfl)) (fun _ _ _ h => h) (Or.inl ⟨by rfl, ?_⟩) hHeld ?_ ?_
 rotate_left
 · rintro w' ⟨s0, s1⟩
   go_simp
   with_reducible rfl
 rotate_left
 · simp only [Act.put, List.setIfInBounds_toArray, List.set_cons_zero, List.set_cons_succ, i64_w, i32_w]
   rfl
 refine join_ (σ := Value × Value × Nat) 1 #[true, true, true, true, true, true, true, true, false] (fun s_ => [(16, s_.1), (20, s_.2.1), (8, .pointer (some ⟨s_.2.2, 0, none⟩)), (21, .agg #[s_.1, .slice none 0 0, s_.2.1])]) (fun s_ w' => (w'.cell? ⟨gb250, 0, none⟩ = some (.int .i64 a0_0) ∧ w'.cell? ⟨gb250, 1, none⟩ = some (.slice A0_1 l0_1.length c0_1)) ∧ (Kd.R (Kd.int .i64) 3 w' w.heap.size (fun _ => True) s_.1 t253) ∧ (Kd.S (Kd.slice 42 k42) 22 w' w.heap.size (fun _ => True) s_.2.1 t256) ∧ (w'.heap[gb250]? = some (.cells #[.int .i64 a0_0, .slice A0_1 l0_1.length c0_1] 24 (0, 0))) ∧ (w'.heap[gb251]? = some (.cells #[.slice none 0 0, .slice none 0 0, .slice none 0 0] 28 (0, 0))) ∧ (w'.heap[s_.2.2]? = some (.cells #[.slice none 0 0, .slice none 0 0, .slice none 0 0] 28 (0, 0))) ∧ (w.heap.size ≤ s_.2.2) ∧ (w.heap.size ≤ s_.2.2) ∧ (gb250 ≠ s_.2.2) ∧ (s_.2.2 ≠ gb250) ∧ (gb251 ≠ s_.2.2) ∧ (s_.2.2 ≠ gb251) ∧ (Below w.heap.size w w')) ?_ ?_
 rotate_left
 · intro hCont
   refine two_ (i := 1) (j := 7) (Ni := some 16) (Nj := some 8) #[true, true, true, true, true, false, false, false, false] #[true, false, true, true, true, false, false, true, false] rfl rfl rfl rfl (two_of HT_.out (by kernel_rfl)) (by decide) (by decide) (fun K hK => ?_) (fun K hK => ?_)
   · skip
     refine goes_ Tryd.func76 (by kernel_rfl) rfl #[.slice A1 l1.length c1] (by rfl) rfl rfl (by (try simp only [List.map_toArray, List.map_cons, List.map_nil]); first | done | rfl | (simp only [List.length_drop, List.length_take]; rfl)) ?_
     with_reducible refine (slices_Clone_int_int.calls _ _ l1 t253 _ ?side1 ?side2 A5.out).mono ?_
     (case side1 => repeat (first | exact (Kd.C_below HR1.out HB.out) | (with_reducible refine Kd.C_alloc ?_ _) | (with_reducible refine Kd.C_drewN ?_ _) | (with_reducible refine Kd.C_drew ?_)))
     (case side2 => exact HC1.out)
     rintro e w10 ⟨v254, rfl, ho0, hb⟩
     refine ⟨_, rfl, ?_⟩
     have n0_ := Aside0.mk (Kd.R_lower ho0 (below_size (zB HB)))
     have n1_ := Aside0.mk (blk_below (g := gb250) (o := .cells #[.int .i64 a0_0, .slice A0_1 l0_1.length c0_1] 24 (0, 0)) (zK BK250) hb)
     have n2_ := Aside0.mk (blk_below (g := gb251) (o := .cells #[.slice none 0 0, .slice none 0 0, .slice none 0 0] 28 (0, 0)) (zK BK251) hb)
     have n3_ := Aside0.mk (below_step (zB HB) hb)
     clear BK250
     clear BK251
     clear HB
     have HO255 := n0_
     have BK250 := n1_
     have BK251 := n2_
     have HB := n3_
     clear n0_ n1_ n2_ n3_
     (try clear hb)
     (try clear hb2)
     (try clear hk)
     (try clear hi)
     (try clear ho0)
     refine hK.out _ _ ⟨(blk_cell BK250.out 0).trans rfl, (blk_cell BK250.out 1).trans rfl⟩ (fun hHeld => ?_)
     clear hK K
     refine norm_ (a' := ?_) ?_ ?_
     rotate_left
     · show Act.put _ (some 16) _ = _
       simp only [Act.put, List.setIfInBounds_toArray, List.set_cons_zero, List.set_cons_succ, i64_w, i32_w]
       rfl
     refine two_ (i := 5) (j := 7) (Ni := some 20) (Nj := some 8) #[true, true, true, true, true, true, false, false, false] #[true, true, true, true, true, false, false, true, false] rfl rfl rfl rfl (two_of HT_.out (by kernel_rfl)) (by decide) (by decide) (fun K hK => ?_) (fun K hK => ?_)
     · skip
       refine goes_ Tryd.func52 (by kernel_rfl) rfl #[.agg #[.int .i64 a0_0, .slice A0_1 l0_1.length c0_1], .slice A1 l1.length c1, .int .i64 a2] (by rfl) rfl rfl (by (try simp only [List.map_toArray, List.map_cons, List.map_nil]); first | done | rfl | (simp only [List.length_drop, List.length_take]; rfl)) ?_
       with_reducible refine (enforce_duties.calls k a0_0 _ _ l0_1 _ _ l1 a2 t256 _ ?side1 ?side2 ?side3 ?side4 ?side5 A6.out).mono ?_
       (case side1 => repeat (first | exact (Kd.C_below HR0_1.out HB.out) | (with_reducible refine Kd.C_alloc ?_ _) | (with_reducible refine Kd.C_drewN ?_ _) | (with_reducible refine Kd.C_drew ?_)))
       (case side2 => exact HC0_1.out)
       (case side3 => repeat (first | exact (Kd.C_below HR1.out HB.out) | (with_reducible refine Kd.C_alloc ?_ _) | (with_reducible refine Kd.C_drewN ?_ _) | (with_reducible refine Kd.C_drew ?_)))
       (case side4 => exact HC1.out)
       (case side5 => exact TabT.now HTab.out (zB HB))
       rintro e w11 ⟨v257, rfl, ho0, hb⟩
       refine ⟨_, rfl, ?_⟩
       have n0_ := Aside0.mk (Kd.R_below (zR HO255) hb)
       have n1_ := Aside0.mk (Kd.S_lower ho0 (below_size (zB HB)))
       have n2_ := Aside0.mk (blk_below (g := gb250) (o := .cells #[.int .i64 a0_0, .slice A0_1 l0_1.length c0_1] 24 (0, 0)) (zK BK250) hb)
       have n3_ := Aside0.mk (blk_below (g := gb251) (o := .cells #[.slice none 0 0, .slice none 0 0, .slice none 0 0] 28 (0, 0)) (zK BK251) hb)
       have n4_ := Aside0.mk (below_step (zB HB) hb)
       clear HO255
       clear BK250
       clear BK251
       clear HB
       have HO255 := n0_
       have HO258 := n1_
       have BK250 := n2_
       have BK251 := n3_
       have HB := n4_
       clear n0_ n1_ n2_ n3_ n4_
       (try clear hb)
       (try clear hb2)
       (try clear hk)
       (try clear hi)
       (try clear ho0)
       obtain ⟨Ao12, co12, eo12⟩ := Kd.S_slice HO258.out
       (first | subst eo12 | (injection eo12 with f1_ f2_ f3_; have f4_ := f1_.symm; have f5_ := f3_.symm; clear f1_ f2_ f3_; subst f4_; subst f5_))
       obtain ⟨Ao13, co13, eo13⟩ := Kd.R_slice HO255.out
       (first | subst eo13 | (injection eo13 with f1_ f2_ f3_; have f4_ := f1_.symm; have f5_ := f3_.symm; clear f1_ f2_ f3_; subst f4_; subst f5_))
       refine hK.out _ _ ⟨(blk_cell BK250.out 0).trans rfl, (blk_cell BK250.out 1).trans rfl⟩ (fun hHeld => ?_)
       clear hK K
       refine norm_ (a' := ?_) ?_ ?_
       rotate_left
       · show Act.put _ (some 20) _ = _
         simp only [Act.put, List.setIfInBounds_toArray, List.set_cons_zero, List.set_cons_succ, i64_w, i32_w]
         rfl
       refine pure_ (i := 6) (N := some 21) (v := ?_) (a' := ?_) #[true, true, true, true, true, true, true, false, false] rfl rfl (any_of HT_.out (by kernel_rfl)) (fun _ _ _ h => h) (Or.inl ⟨by rfl, ?_⟩) ?_ ?_
       rotate_left
       · intro w'
         go_simp
         with_reducible rfl
       rotate_left
       · simp only [Act.put, List.setIfInBounds_toArray, List.set_cons_zero, List.set_cons_succ, i64_w, i32_w]
         rfl
       refine one_ (i := 7) (N := some 8) #[true, true, true, true, true, true, true, true, false] rfl rfl (one_of HT_.out (by kernel_rfl)) (by decide) (fun K hK => ?_)
       refine box_step ?hg (N := 8) ?hd (cs := #[.slice none 0 0, .slice none 0 0, .slice none 0 0]) (t := 28) ?hr ?_; (case hd => rfl); (case hg => rfl); (case hr => first | (go_simp; done) | (go_simp; rfl))
       intro gb259 hg w14 hbox hb
       have n0_ := Aside0.mk (Kd.R_below (zR HO255) hb)
       have n1_ := Aside0.mk (Kd.S_below (zS HO258) hb)
       have n2_ := Aside0.mk (blk_below (g := gb250) (o := .cells #[.int .i64 a0_0, .slice A0_1 l0_1.length c0_1] 24 (0, 0)) (zK BK250) hb)
       have n3_ := Aside0.mk (blk_below (g := gb251) (o := .cells #[.slice none 0 0, .slice none 0 0, .slice none 0 0] 28 (0, 0)) (zK BK251) hb)
       have n4_ := Aside0.mk (below_step (zB HB) hb)
       have n5_ := Aside0.mk (hbox)
       have n6_ := Aside0.mk ((by rw [hg]; exact (below_size (zB HB)) : w.heap.size ≤ gb259))
       have n7_ := Aside0.mk ((by rw [hg]; exact (below_size (zB HB)) : w.heap.size ≤ gb259))
       have n8_ := Aside0.mk ((by rw [hg]; exact Nat.ne_of_lt (blk_lt (g := gb250) (o := .cells #[.int .i64 a0_0, .slice A0_1 l0_1.length c0_1] 24 (0, 0)) (zK BK250)) : gb250 ≠ gb259))
       have n9_ := Aside0.mk ((by rw [hg]; exact Nat.ne_of_gt (blk_lt (g := gb250) (o := .cells #[.int .i64 a0_0, .slice A0_1 l0_1.length c0_1] 24 (0, 0)) (zK BK250)) : gb259 ≠ gb250))
       have n10_ := Aside0.mk ((by rw [hg]; exact Nat.ne_of_lt (blk_lt (g := gb251) (o := .cells #[.slice none 0 0, .slice none 0 0, .slice none 0 0] 28 (0, 0)) (zK BK251)) : gb251 ≠ gb259))
       have n11_ := Aside0.mk ((by rw [hg]; exact Nat.ne_of_gt (blk_lt (g := gb251) (o := .cells #[.slice none 0 0, .slice none 0 0, .slice none 0 0] 28 (0, 0)) (zK BK251)) : gb259 ≠ gb251))
       clear HO255
       clear HO258
       clear BK250
       clear BK251
       clear HB
       have HO255 := n0_
       have HO258 := n1_
       have BK250 := n2_
       have BK251 := n3_
       have HB := n4_
       have BK259 := n5_
       have GW259 := n6_
       have GE259 := n7_
       have NB250_259 := n8_
       have NB259_250 := n9_
       have NB251_259 := n10_
       have NB259_251 := n11_
       clear n0_ n1_ n2_ n3_ n4_ n5_ n6_ n7_ n8_ n9_ n10_ n11_
       clear hb hbox hg
       refine hK.out _ _ ⟨(blk_cell BK250.out 0).trans rfl, (blk_cell BK250.out 1).trans rfl⟩ (fun hHeld => ?_)
       clear hK K
       refine norm_ (a' := ?_) ?_ ?_
       rotate_left
       · show Act.put _ (some 8) _ = _
         simp only [Act.put, List.setIfInBounds_toArray, List.set_cons_zero, List.set_cons_succ, i64_w, i32_w]
         rfl
       exact norm_ (by simp only [putAll, Act.put, List.setIfInBounds_toArray, List.set_cons_zero, List.set_cons_succ]) (hCont (.slice Ao13 t253.length co13, .slice Ao12 t256.length co12, gb259) _ ⟨hHeld, (zR HO255), (zS HO258), (zK BK250), (zK BK251), (zK BK259), GW259.out, GE259.out, NB250_259.out, NB259_250.out, NB251_259.out, NB259_251.out, (zB HB)⟩)
     · skip
       refine box_step ?hg (N := 8) ?hd (cs := #[.slice none 0 0, .slice none 0 0, .slice none 0 0]) (t := 28) ?hr ?_; (case hd => rfl); (case hg => rfl); (case hr => first | (go_simp; done) | (go_simp; rfl))
       intro gb259 hg w11 hbox hb
       have n0_ := Aside0.mk (Kd.R_below (zR HO255) hb)
       have n1_ := Aside0.mk (blk_below (g := gb250) (o := .cells #[.int .i64 a0_0, .slice A0_1 l0_1.length c0_1] 24 (0, 0)) (zK BK250) hb)
       have n2_ := Aside0.mk (blk_below (g := gb251) (o := .cells #[.slice none 0 0, .slice none 0 0, .slice none 0 0] 28 (0, 0)) (zK BK251) hb)
       have n3_ := Aside0.mk (below_step (zB HB) hb)
       have n4_ := Aside0.mk (hbox)
       have n5_ := Aside0.mk ((by rw [hg]; exact (below_size (zB HB)) : w.heap.size ≤ gb259))
       have n6_ := Aside0.mk ((by rw [hg]; exact (below_size (zB HB)) : w.heap.size ≤ gb259))
       have n7_ := Aside0.mk ((by rw [hg]; exact Nat.ne_of_lt (blk_lt (g := gb250) (o := .cells #[.int .i64 a0_0, .slice A0_1 l0_1.length c0_1] 24 (0, 0)) (zK BK250)) : gb250 ≠ gb259))
       have n8_ := Aside0.mk ((by rw [hg]; exact Nat.ne_of_gt (blk_lt (g := gb250) (o := .cells #[.int .i64 a0_0, .slice A0_1 l0_1.length c0_1] 24 (0, 0)) (zK BK250)) : gb259 ≠ gb250))
       have n9_ := Aside0.mk ((by rw [hg]; exact Nat.ne_of_lt (blk_lt (g := gb251) (o := .cells #[.slice none 0 0, .slice none 0 0, .slice none 0 0] 28 (0, 0)) (zK BK251)) : gb251 ≠ gb259))
       have n10_ := Aside0.mk ((by rw [hg]; exact Nat.ne_of_gt (blk_lt (g := gb251) (o := .cells #[.slice none 0 0, .slice none 0 0, .slice none 0 0] 28 (0, 0)) (zK BK251)) : gb259 ≠ gb251))
       clear HO255
       clear BK250
       clear BK251
       clear HB
       have HO255 := n0_
       have BK250 := n1_
       have BK251 := n2_
       have HB := n3_
       have BK259 := n4_
       have GW259 := n5_
       have GE259 := n6_
       have NB250_259 := n7_
       have NB259_250 := n8_
       have NB251_259 := n9_
       have NB259_251 := n10_
       clear n0_ n1_ n2_ n3_ n4_ n5_ n6_ n7_ n8_ n9_ n10_
       clear hb hbox hg
       refine hK.out _ _ ⟨(blk_cell BK250.out 0).trans rfl, (blk_cell BK250.out 1).trans rfl⟩ (fun hHeld => ?_)
       clear hK K
       refine norm_ (a' := ?_) ?_ ?_
       rotate_left
       · show Act.put _ (some 8) _ = _
         simp only [Act.put, List.setIfInBounds_toArray, List.set_cons_zero, List.set_cons_succ, i64_w, i32_w]
         rfl
       refine one_ (i := 5) (N := some 20) #[true, true, true, true, true, true, false, true, false] rfl rfl (one_of HT_.out (by kernel_rfl)) (by decide) (fun K hK => ?_)
       refine goes_ Tryd.func52 (by kernel_rfl) rfl #[.agg #[.int .i64 a0_0, .slice A0_1 l0_1.length c0_1], .slice A1 l1.length c1, .int .i64 a2] (by rfl) rfl rfl (by (try simp only [List.map_toArray, List.map_cons, List.map_nil]); first | done | rfl | (simp only [List.length_drop, List.length_take]; rfl)) ?_
       with_reducible refine (enforce_duties.calls k a0_0 _ _ l0_1 _ _ l1 a2 t256 _ ?side1 ?side2 ?side3 ?side4 ?side5 A6.out).mono ?_
       (case side1 => repeat (first | exact (Kd.C_below HR0_1.out HB.out) | (with_reducible refine Kd.C_alloc ?_ _) | (with_reducible refine Kd.C_drewN ?_ _) | (with_reducible refine Kd.C_drew ?_)))
       (case side2 => exact HC0_1.out)
       (case side3 => repeat (first | exact (Kd.C_below HR1.out HB.out) | (with_reducible refine Kd.C_alloc ?_ _) | (with_reducible refine Kd.C_drewN ?_ _) | (with_reducible refine Kd.C_drew ?_)))
       (case side4 => exact HC1.out)
       (case side5 => exact TabT.now HTab.out (zB HB))
       rintro e w12 ⟨v257, rfl, ho0, hb⟩
       refine ⟨_, rfl, ?_⟩
       have n0_ := Aside0.mk (Kd.R_below (zR HO255) hb)
       have n1_ := Aside0.mk (Kd.S_lower ho0 (below_size (zB HB)))
       have n2_ := Aside0.mk (blk_below (g := gb250) (o := .cells #[.int .i64 a0_0, .slice A0_1 l0_1.length c0_1] 24 (0, 0)) (zK BK250) hb)
       have n3_ := Aside0.mk (blk_below (g := gb251) (o := .cells #[.slice none 0 0, .slice none 0 0, .slice none 0 0] 28 (0, 0)) (zK BK251) hb)
       have n4_ := Aside0.mk (blk_below (g := gb259) (o := .cells #[.slice none 0 0, .slice none 0 0, .slice none 0 0] 28 (0, 0)) (zK BK259) hb)
       have n5_ := Aside0.mk (below_step (zB HB) hb)
       clear HO255
       clear BK250
       clear BK251
       clear BK259
       clear HB
       have HO255 := n0_
       have HO258 := n1_
       have BK250 := n2_
       have BK251 := n3_
       have BK259 := n4_
       have HB := n5_
       clear n0_ n1_ n2_ n3_ n4_ n5_
       (try clear hb)
       (try clear hb2)
       (try clear hk)
       (try clear hi)
       (try clear ho0)
       obtain ⟨Ao13, co13, eo13⟩ := Kd.S_slice HO258.out
       (first | subst eo13 | (injection eo13 with f1_ f2_ f3_; have f4_ := f1_.symm; have f5_ := f3_.symm; clear f1_ f2_ f3_; subst f4_; subst f5_))
       obtain ⟨Ao14, co14, eo14⟩ := Kd.R_slice HO255.out
       (first | subst eo14 | (injection eo14 with f1_ f2_ f3_; have f4_ := f1_.symm; have f5_ := f3_.symm; clear f1_ f2_ f3_; subst f4_; subst f5_))
       refine hK.out _ _ ⟨(blk_cell BK250.out 0).trans rfl, (blk_cell BK250.out 1).trans rfl⟩ (fun hHeld => ?_)
       clear hK K
       refine norm_ (a' := ?_) ?_ ?_
       rotate_left
       · show Act.put _ (some 20) _ = _
         simp only [Act.put, List.setIfInBounds_toArray, List.set_cons_zero, List.set_cons_succ, i64_w, i32_w]
         rfl
       refine pure_ (i := 6) (N := some 21) (v := ?_) (a' := ?_) #[true, true, true, true, true, true, true, true, false] rfl rfl (any_of HT_.out (by kernel_rfl)) (fun _ _ _ h => h) (Or.inl ⟨by rfl, ?_⟩) ?_ ?_
       rotate_left
       · intro w'
         go_simp
         with_reducible rfl
       rotate_left
       · simp only [Act.put, List.setIfInBounds_toArray, List.set_cons_zero, List.set_cons_succ, i64_w, i32_w]
         rfl
       exact norm_ (by simp only [putAll, Act.put, List.setIfInBounds_toArray, List.set_cons_zero, List.set_cons_succ]) (hCont (.slice Ao14 t253.length co14, .slice Ao13 t256.length co13, gb259) _ ⟨hHeld, (zR HO255), (zS HO258), (zK BK250), (zK BK251), (zK BK259), GW259.out, GE259.out, NB250_259.out, NB259_250.out, NB251_259.out, NB259_251.out, (zB HB)⟩)
   · skip
     refine box_step ?hg (N := 8) ?hd (cs := #[.slice none 0 0, .slice none 0 0, .slice none 0 0]) (t := 28) ?hr ?_; (case hd => rfl); (case hg => rfl); (case hr => first | (go_simp; done) | (go_simp; rfl))
     intro gb259 hg w10 hbox hb
     have n0_ := Aside0.mk (blk_below (g := gb250) (o := .cells #[.int .i64 a0_0, .slice A0_1 l0_1.length c0_1] 24 (0, 0)) (zK BK250) hb)
     have n1_ := Aside0.mk (blk_below (g := gb251) (o := .cells #[.slice none 0 0, .slice none 0 0, .slice none 0 0] 28 (0, 0)) (zK BK251) hb)
     have n2_ := Aside0.mk (below_step (zB HB) hb)
     have n3_ := Aside0.mk (hbox)
     have n4_ := Aside0.mk ((by rw [hg]; exact (below_size (zB HB)) : w.heap.size ≤ gb259))
     have n5_ := Aside0.mk ((by rw [hg]; exact (below_size (zB HB)) : w.heap.size ≤ gb259))
     have n6_ := Aside0.mk ((by rw [hg]; exact Nat.ne_of_lt (blk_lt (g := gb250) (o := .cells #[.int .i64 a0_0, .slice A0_1 l0_1.length c0_1] 24 (0, 0)) (zK BK250)) : gb250 ≠ gb259))
     have n7_ := Aside0.mk ((by rw [hg]; exact Nat.ne_of_gt (blk_lt (g := gb250) (o := .cells #[.int .i64 a0_0, .slice A0_1 l0_1.length c0_1] 24 (0, 0)) (zK BK250)) : gb259 ≠ gb250))
     have n8_ := Aside0.mk ((by rw [hg]; exact Nat.ne_of_lt (blk_lt (g := gb251) (o := .cells #[.slice none 0 0, .slice none 0 0, .slice none 0 0] 28 (0, 0)) (zK BK251)) : gb251 ≠ gb259))
     have n9_ := Aside0.mk ((by rw [hg]; exact Nat.ne_of_gt (blk_lt (g := gb251) (o := .cells #[.slice none 0 0, .slice none 0 0, .slice none 0 0] 28 (0, 0)) (zK BK251)) : gb259 ≠ gb251))
     clear BK250
     clear BK251
     clear HB
     have BK250 := n0_
     have BK251 := n1_
     have HB := n2_
     have BK259 := n3_
     have GW259 := n4_
     have GE259 := n5_
     have NB250_259 := n6_
     have NB259_250 := n7_
     have NB251_259 := n8_
     have NB259_251 := n9_
     clear n0_ n1_ n2_ n3_ n4_ n5_ n6_ n7_ n8_ n9_
     clear hb hbox hg
     refine hK.out _ _ ⟨(blk_cell BK250.out 0).trans rfl, (blk_cell BK250.out 1).trans rfl⟩ (fun hHeld => ?_)
     clear hK K
     refine norm_ (a' := ?_) ?_ ?_
     rotate_left
     · show Act.put _ (some 8) _ = _
       simp only [Act.put, List.setIfInBounds_toArray, List.set_cons_zero, List.set_cons_succ, i64_w, i32_w]
       rfl
     refine one_ (i := 1) (N := some 16) #[true, true, true, true, true, false, false, true, false] rfl rfl (one_of HT_.out (by kernel_rfl)) (by decide) (fun K hK => ?_)
     refine goes_ Tryd.func76 (by kernel_rfl) rfl #[.slice A1 l1.length c1] (by rfl) rfl rfl (by (try simp only [List.map_toArray, List.map_cons, List.map_nil]); first | done | rfl | (simp only [List.length_drop, List.length_take]; rfl)) ?_
     with_reducible refine (slices_Clone_int_int.calls _ _ l1 t253 _ ?side1 ?side2 A5.out).mono ?_
     (case side1 => repeat (first | exact (Kd.C_below HR1.out HB.out) | (with_reducible refine Kd.C_alloc ?_ _) | (with_reducible refine Kd.C_drewN ?_ _) | (with_reducible refine Kd.C_drew ?_)))
     (case side2 => exact HC1.out)
     rintro e w11 ⟨v254, rfl, ho0, hb⟩
     refine ⟨_, rfl, ?_⟩
     have n0_ := Aside0.mk (Kd.R_lower ho0 (below_size (zB HB)))
     have n1_ := Aside0.mk (blk_below (g := gb250) (o := .cells #[.int .i64 a0_0, .slice A0_1 l0_1.length c0_1] 24 (0, 0)) (zK BK250) hb)
     have n2_ := Aside0.mk (blk_below (g := gb251) (o := .cells #[.slice none 0 0, .slice none 0 0, .slice none 0 0] 28 (0, 0)) (zK BK251) hb)
     have n3_ := Aside0.mk (blk_below (g := gb259) (o := .cells #[.slice none 0 0, .slice none 0 0, .slice none 0 0] 28 (0, 0)) (zK BK259) hb)
     have n4_ := Aside0.mk (below_step (zB HB) hb)
     clear BK250
     clear BK251
     clear BK259
     clear HB
     have HO255 := n0_
     have BK250 := n1_
     have BK251 := n2_
     have BK259 := n3_
     have HB := n4_
     clear n0_ n1_ n2_ n3_ n4_
     (try clear hb)
     (try clear hb2)
     (try clear hk)
     (try clear hi)
     (try clear ho0)
     refine hK.out _ _ ⟨(blk_cell BK250.out 0).trans rfl, (blk_cell BK250.out 1).trans rfl⟩ (fun hHeld => ?_)
     clear hK K
     refine norm_ (a' := ?_) ?_ ?_
     rotate_left
     · show Act.put _ (some 16) _ = _
       simp only [Act.put, List.setIfInBounds_toArray, List.set_cons_zero, List.set_cons_succ, i64_w, i32_w]
       rfl
     refine one_ (i := 5) (N := some 20) #[true, true, true, true, true, true, false, true, false] rfl rfl (one_of HT_.out (by kernel_rfl)) (by decide) (fun K hK => ?_)
     refine goes_ Tryd.func52 (by kernel_rfl) rfl #[.agg #[.int .i64 a0_0, .slice A0_1 l0_1.length c0_1], .slice A1 l1.length c1, .int .i64 a2] (by rfl) rfl rfl (by (try simp only [List.map_toArray, List.map_cons, List.map_nil]); first | done | rfl | (simp only [List.length_drop, List.length_take]; rfl)) ?_
     with_reducible refine (enforce_duties.calls k a0_0 _ _ l0_1 _ _ l1 a2 t256 _ ?side1 ?side2 ?side3 ?side4 ?side5 A6.out).mono ?_
     (case side1 => repeat (first | exact (Kd.C_below HR0_1.out HB.out) | (with_reducible refine Kd.C_alloc ?_ _) | (with_reducible refine Kd.C_drewN ?_ _) | (with_reducible refine Kd.C_drew ?_)))
     (case side2 => exact HC0_1.out)
     (case side3 => repeat (first | exact (Kd.C_below HR1.out HB.out) | (with_reducible refine Kd.C_alloc ?_ _) | (with_reducible refine Kd.C_drewN ?_ _) | (with_reducible refine Kd.C_drew ?_)))
     (case side4 => exact HC1.out)
     (case side5 => exact TabT.now HTab.out (zB HB))
     rintro e w12 ⟨v257, rfl, ho0, hb⟩
     refine ⟨_, rfl, ?_⟩
     have n0_ := Aside0.mk (Kd.R_below (zR HO255) hb)
     have n1_ := Aside0.mk (Kd.S_lower ho0 (below_size (zB HB)))
     have n2_ := Aside0.mk (blk_below (g := gb250) (o := .cells #[.int .i64 a0_0, .slice A0_1 l0_1.length c0_1] 24 (0, 0)) (zK BK250) hb)
     have n3_ := Aside0.mk (blk_below (g := gb251) (o := .cells #[.slice none 0 0, .slice none 0 0, .slice none 0 0] 28 (0, 0)) (zK BK251) hb)
     have n4_ := Aside0.mk (blk_below (g := gb259) (o := .cells #[.slice none 0 0, .slice none 0 0, .slice none 0 0] 28 (0, 0)) (zK BK259) hb)
     have n5_ := Aside0.mk (below_step (zB HB) hb)
     clear HO255
     clear BK250
     clear BK251
     clear BK259
     clear HB
     have HO255 := n0_
     have HO258 := n1_
     have BK250 := n2_
     have BK251 := n3_
     have BK259 := n4_
     have HB := n5_
     clear n0_ n1_ n2_ n3_ n4_ n5_
     (try clear hb)
     (try clear hb2)
     (try clear hk)
     (try clear hi)
     (try clear ho0)
     obtain ⟨Ao13, co13, eo13⟩ := Kd.S_slice HO258.out
     (first | subst eo13 | (injection eo13 with f1_ f2_ f3_; have f4_ := f1_.symm; have f5_ := f3_.symm; clear f1_ f2_ f3_; subst f4_; subst f5_))
     obtain ⟨Ao14, co14, eo14⟩ := Kd.R_slice HO255.out
     (first | subst eo14 | (injection eo14 with f1_ f2_ f3_; have f4_ := f1_.symm; have f5_ := f3_.symm; clear f1_ f2_ f3_; subst f4_; subst f5_))
     refine hK.out _ _ ⟨(blk_cell BK250.out 0).trans rfl, (blk_cell BK250.out 1).trans rfl⟩ (fun hHeld => ?_)
     clear hK K
     refine norm_ (a' := ?_) ?_ ?_
     rotate_left
     · show Act.put _ (some 20) _ = _
       simp only [Act.put, List.setIfInBounds_toArray, List.set_cons_zero, List.set_cons_succ, i64_w, i32_w]
       rfl
     refine pure_ (i := 6) (N := some 21) (v := ?_) (a' := ?_) #[true, true, true, true, true, true, true, true, false] rfl rfl (any_of HT_.out (by kernel_rfl)) (fun _ _ _ h => h) (Or.inl ⟨by rfl, ?_⟩) ?_ ?_
     rotate_left
     · intro w'
       go_simp
       with_reducible rfl
     rotate_left
     · simp only [Act.put, List.setIfInBounds_toArray, List.set_cons_zero, List.set_cons_succ, i64_w, i32_w]
       rfl
     exact norm_ (by simp only [putAll, Act.put, List.setIfInBounds_toArray, List.set_cons_zero, List.set_cons_succ]) (hCont (.slice Ao14 t253.length co14, .slice Ao13 t256.length co13, gb259) _ ⟨hHeld, (zR HO255), (zS HO258), (zK BK250), (zK BK251), (zK BK259), GW259.out, GE259.out, NB250_259.out, NB259_250.out, NB251_259.out, NB259_251.out, (zB HB)⟩)
 rintro ⟨v254, v257, gb259⟩ w15 ⟨hS_, h0_, h1_, h2_, h3_, h4_, h5_, h6_, h7_, h8_, h9_, h10_, h11_⟩
 have n0_ : Aside0 (Kd.R (Kd.int .i64) 3 w15 w.heap.size (fun _ => True) v254 t253) := ⟨h0_⟩
 have n1_ : Aside0 (Kd.S (Kd.slice 42 k42) 22 w15 w.heap.size (fun _ => True) v257 t256) := ⟨h1_⟩
 have n2_ : Aside0 (w15.heap[gb250]? = some (.cells #[.int .i64 a0_0, .slice A0_1 l0_1.length c0_1] 24 (0, 0))) := ⟨h2_⟩
 have n3_ : Aside0 (w15.heap[gb251]? = some (.cells #[.slice none 0 0, .slice none 0 0, .slice none 0 0] 28 (0, 0))) := ⟨h3_⟩
 have n4_ : Aside0 (w15.heap[gb259]? = some (.cells #[.slice none 0 0, .slice none 0 0, .slice none 0 0] 28 (0, 0))) := ⟨h4_⟩
 have n5_ : Aside0 (w.heap.size ≤ gb259) := ⟨h5_⟩
 have n6_ : Aside0 (w.heap.size ≤ gb259) := ⟨h6_⟩
 have n7_ : Aside0 (gb250 ≠ gb259) := ⟨h7_⟩
 have n8_ : Aside0 (gb259 ≠ gb250) := ⟨h8_⟩
 have n9_ : Aside0 (gb251 ≠ gb259) := ⟨h9_⟩
 have n10_ : Aside0 (gb259 ≠ gb251) := ⟨h10_⟩
 have n11_ : Aside0 (Below w.heap.size w w15) := ⟨h11_⟩
 clear BK250
 clear BK251
 clear HB
 clear h0_ h1_ h2_ h3_ h4_ h5_ h6_ h7_ h8_ h9_ h10_ h11_
 have HO255 := n0_
 have HO258 := n1_
 have BK250 := n2_
 have BK251 := n3_
 have BK259 := n4_
 have GW259 := n5_
 have GE259 := n6_
 have NB250_259 := n7_
 have NB259_250 := n8_
 have NB251_259 := n9_
 have NB259_251 := n10_
 have HB := n11_
 clear n0_ n1_ n2_ n3_ n4_ n5_ n6_ n7_ n8_ n9_ n10_ n11_
 have hHeld : w15.cell? ⟨gb250, 0, none⟩ = some (.int .i64 a0_0) ∧ w15.cell? ⟨gb250, 1, none⟩ = some (.slice A0_1 l0_1.length c0_1) := hS_
 obtain ⟨Ao16, co16, eo16⟩ := Kd.S_slice HO258.out
 (first | subst eo16 | (injection eo16 with f1_ f2_ f3_; have f4_ := f1_.symm; have f5_ := f3_.symm; clear f1_ f2_ f3_; subst f4_; subst f5_))
 obtain ⟨Ao17, co17, eo17⟩ := Kd.R_slice HO255.out
 (first | subst eo17 | (injection eo17 with f1_ f2_ f3_; have f4_ := f1_.symm; have f5_ := f3_.symm; clear f1_ f2_ f3_; subst f4_; subst f5_))
 refine norm_ (a' := ?_) ?_ ?_
 rotate_left
 · simp only [putAll, Act.put, List.setIfInBounds_toArray, List.set_cons_zero, List.set_cons_succ]
   rfl
 refine one_ (i := 8) (N := none) #[true, true, true, true, true, true, true, true, true] rfl rfl (one_of HT_.out (by kernel_rfl)) (by decide) (fun K hK => ?_)
 have hs18 : w15.cell? ⟨gb259, 0, none⟩ = some (.slice none 0 0) := (blk_cell BK259.out 0).trans rfl
 have hfs18 := blk_frozen BK259.out 0
 have hns18_0 := NB250_259.out
 have hns18_1 := NB251_259.out
 have hms18_0 := NB259_250.out
 have hms18_1 := NB259_251.out
 have hs19 : w15.cell? ⟨gb259, 1, none⟩ = some (.slice none 0 0) := (blk_cell BK259.out 1).trans rfl
 have hfs19 := blk_frozen BK259.out 1
 have hns19_0 := NB250_259.out
 have hns19_1 := NB251_259.out
 have hms19_0 := NB259_250.out
 have hms19_1 := NB259_251.out
 have hs20 : w15.cell? ⟨gb259, 2, none⟩ = some (.slice none 0 0) := (blk_cell BK259.out 2).trans rfl
 have hfs20 := blk_frozen BK259.out 2
 have hns20_0 := NB250_259.out
 have hns20_1 := NB251_259.out
 have hms20_0 := NB259_250.out
 have hms20_1 := NB259_251.out
 refine skip_ (w1 := ?_) (by rfl) rfl ?_ ?_
 rotate_left
 · go_simp
   rfl
 refine hK.out _ _ ⟨((cell_far (p := ⟨gb259, _, none⟩) NB250_259.out _).trans (((cell_far (p := ⟨gb259, _, none⟩) NB250_259.out _).trans (((cell_far (p := ⟨gb259, _, none⟩) NB250_259.out _).trans (hHeld.1)))))), ((cell_far (p := ⟨gb259, _, none⟩) NB250_259.out _).trans (((cell_far (p := ⟨gb259, _, none⟩) NB250_259.out _).trans (((cell_far (p := ⟨gb259, _, none⟩) NB250_259.out _).trans (hHeld.2))))))⟩ (fun hHeld => ?_)
 clear hK K
 refine done_ (done_of HT_.out (by kernel_rfl)) ?_
 have hnb21 := NB259_250.out
 have hnc21 := NB250_259.out
 have hnb22 := NB259_251.out
 have hnc22 := NB251_259.out
 have hcz23_0 : w15.cell? ⟨gb259, 0, none⟩ = some (.slice none 0 0) := (blk_cell BK259.out 0).trans rfl
 have hcz23_1 : w15.cell? ⟨gb259, 1, none⟩ = some (.slice none 0 0) := (blk_cell BK259.out 1).trans rfl
 have hcz23_2 : w15.cell? ⟨gb259, 2, none⟩ = some (.slice none 0 0) := (blk_cell BK259.out 2).trans rfl
 have hfz23_0 := blk_frozen BK259.out 0
 have hfz23_1 := blk_frozen BK259.out 1
 have hfz23_2 := blk_frozen BK259.out 2
 try go_wp2
 go_loopg [25] k (fun kq v25 w' => ∃ (x25_1 : Int) (x260001_1 : List (S42)) (u260001 : Value), v25 = .int .i64 x25_1 ∧ Aside0 (enforce_strict.l0 kq l1 t252 t256 (t256.length : Int) x25_1 t253 x260001_1 t256 = some (r1, r2, r3)) ∧ Aside0 (kq ≤ k) ∧ Aside0 (Kd.S (Kd.slice 42 k42) 22 w' w.heap.size (fun k_ => some k_ ≠ (u260001 : Value).ownBlock) (.slice Ao16 t256.length co16) t256) ∧ Aside0 (Kd.R (Kd.int .i64) 3 w' w.heap.size (fun _ => True) (.slice Ao17 t253.length co17) t253) ∧ Aside0 (Kd.R k42 42 w' w.heap.size (fun _ => True) u260001 x260001_1) ∧ Aside0 (Kd.S (Kd.slice 42 k42) 22 w' w.heap.size (fun k_ => some k_ ≠ (u260001 : Value).ownBlock) (.slice Ao16 t256.length co16) t256) ∧ Aside0 (w'.heap[gb250]? = some (.cells #[.int .i64 a0_0, (.slice A0_1 l0_1.length c0_1)] 24 (0, 0))) ∧ Aside0 (w'.heap[gb251]? = some (.cells #[(.slice none 0 0), (.slice none 0 0), (.slice none 0 0)] 28 (0, 0))) ∧ Aside0 (w'.heap[gb259]? = some (.cells #[(.slice Ao17 t253.length co17), u260001, (.slice Ao16 t256.length co16)] 28 (0, 0))) ∧ Aside0 (Below w.heap.size w w'))
 case atStart => exact ⟨(0), (([] : List (S42))), (.slice none 0 0), (by first | rfl | (simp; done) | (simp [*]; done)), H', ⟨Nat.le_refl _⟩, ⟨by (with_reducible repeat (first | apply Kd.S_alloc | apply Kd.S_drewN | apply Kd.S_drew)); exact Kd.S_mono (Kd.S_far (p := ⟨gb259, 2, none⟩) (Kd.S_far (p := ⟨gb259, 1, none⟩) (Kd.S_far (p := ⟨gb259, 0, none⟩) (Kd.S_types HO258.out BK259.out (by decide)) (fun _ hk => hk.2) (.slice Ao17 t253.length co17)) (fun _ hk => hk.2) (.slice none 0 0)) (fun _ hk => hk.2) (.slice Ao16 t256.length co16)) (fun _ hk => (by simp [Value.ownBlock]))⟩, ⟨by (with_reducible repeat (first | apply Kd.R_alloc | apply Kd.R_drewN | apply Kd.R_drew)); exact Kd.R_mono (Kd.R_far (p := ⟨gb259, 2, none⟩) (Kd.R_far (p := ⟨gb259, 1, none⟩) (Kd.R_far (p := ⟨gb259, 0, none⟩) (Kd.R_types HO255.out BK259.out (by decide)) (fun _ hk => hk.2) (.slice Ao17 t253.length co17)) (fun _ hk => hk.2) (.slice none 0 0)) (fun _ hk => hk.2) (.slice Ao16 t256.length co16)) (fun _ hk => trivial)⟩, ⟨by first | exact Kd.R_nil _ _ _ _ _ | exact Kd.N_nil _ _ _ _ _ | exact Kd.V_nil _ _ _ _ _ | exact Kd.Q_nil _ _ _ _ _ | exact Kd.S_nil _ _ _ _ _ | exact Kd.R_nil _ _ _ 0 _⟩, ⟨by (with_reducible repeat (first | apply Kd.S_alloc | apply Kd.S_drewN | apply Kd.S_drew)); exact Kd.S_mono (Kd.S_far (p := ⟨gb259, 2, none⟩) (Kd.S_far (p := ⟨gb259, 1, none⟩) (Kd.S_far (p := ⟨gb259, 0, none⟩) (Kd.S_types HO258.out BK259.out (by decide)) (fun _ hk => hk.2) (.slice Ao17 t253.length co17)) (fun _ hk => hk.2) (.slice none 0 0)) (fun _ hk => hk.2) (.slice Ao16 t256.length co16)) (fun _ hk => (by simp [Value.ownBlock]))⟩, ⟨by (with_reducible repeat (first | refine blk_drewN ?_ _ | refine blk_drew ?_ | refine blk_alloc ?_ _)); refine blk_far ?_ NB250_259.out _; (with_reducible repeat (first | refine blk_drewN ?_ _ | refine blk_drew ?_ | refine blk_alloc ?_ _)); refine blk_far ?_ NB250_259.out _; (with_reducible repeat (first | refine blk_drewN ?_ _ | refine blk_drew ?_ | refine blk_alloc ?_ _)); refine blk_far ?_ NB250_259.out _; (with_reducible repeat (first | refine blk_drewN ?_ _ | refine blk_drew ?_ | refine blk_alloc ?_ _)); exact BK250.out⟩, ⟨by (with_reducible repeat (first | refine blk_drewN ?_ _ | refine blk_drew ?_ | refine blk_alloc ?_ _)); refine blk_far ?_ NB251_259.out _; (with_reducible repeat (first | refine blk_drewN ?_ _ | refine blk_drew ?_ | refine blk_alloc ?_ _)); refine blk_far ?_ NB251_259.out _; (with_reducible repeat (first | refine blk_drewN ?_ _ | refine blk_drew ?_ | refine blk_alloc ?_ _)); refine blk_far ?_ NB251_259.out _; (with_reducible repeat (first | refine blk_drewN ?_ _ | refine blk_drew ?_ | refine blk_alloc ?_ _)); exact BK251.out⟩, ⟨by (with_reducible repeat (first | refine blk_drewN ?_ _ | refine blk_drew ?_ | refine blk_alloc ?_ _)); refine blk_put (cs := #[.slice Ao17 t253.length co17, .slice none 0 0, .slice none 0 0]) ?_ 2 _ rfl; (with_reducible repeat (first | refine blk_drewN ?_ _ | refine blk_drew ?_ | refine blk_alloc ?_ _)); refine blk_put (cs := #[.slice Ao17 t253.length co17, .slice none 0 0, .slice none 0 0]) ?_ 1 _ rfl; (with_reducible repeat (first | refine blk_drewN ?_ _ | refine blk_drew ?_ | refine blk_alloc ?_ _)); refine blk_put (cs := #[.slice none 0 0, .slice none 0 0, .slice none 0 0]) ?_ 0 _ rfl; (with_reducible repeat (first | refine blk_drewN ?_ _ | refine blk_drew ?_ | refine blk_alloc ?_ _)); exact BK259.out⟩, ⟨zB HB⟩⟩
 case round =>
  clear H'
  try clear c1
  try clear c2
  try clear p2
  try clear c4
  try clear c5
  try clear c7
  try clear c21
  try clear c22
  try clear hcz23_0
  try clear hcz23_1
  try clear hcz23_2
  try clear hfz23_0
  try clear hfz23_1
  try clear hfz23_2
  obtain ⟨x25_1, x260001_1, u260001, rfl, HA, HK1, HO_23, HO_260000, HO_260001, HO_260002, BK250, BK251, BK259, HB⟩ := hrel
  cases gk with
  | zero => exact absurd HA.out (by simp [enforce_strict.l0])
  | succ k1 =>
   have H := HA.out
   clear HA
   simp only [enforce_strict.l0] at H
   by_cases c24 : x25_1 < (t256.length : Int)
   · rw [if_pos c24] at H
     have c24b0 : decide (x25_1 < (t256.length : Int)) = true := decide_eq_true c24
     clear c24
     by_cases c25 : 0 ≤ x25_1
     · rw [if_pos c25] at H
       have c25b0 : decide (0 ≤ x25_1) = true := decide_eq_true c25
       clear c25
       by_cases c26 : x25_1 < (t256.length : Int)
       · rw [if_pos c26] at H
         have c26b0 : decide (x25_1 < (t256.length : Int)) = true := decide_eq_true c26
         clear c26
         by_cases c27 : 0 < ((rd_L2 t256 x25_1).length : Int)
         · rw [if_pos c27] at H
           have c27b0 : decide (0 < ((rd_L2 t256 x25_1).length : Int)) = true := decide_eq_true c27
           have c27b1 : decide (0 < (rd_L2 t256 x25_1).length) = true := decide_eq_true (by omega)
           clear c27
           have HC28 := Aside0.mk H
           clear H
           have p260 : 0 ≤ (x25_1 : Int) := of_decide_eq_true (by first | (with_reducible assumption) | assumption)
           have q260 : x25_1 < (t256.length : Int) := of_decide_eq_true (by first | (with_reducible assumption) | assumption)
           obtain ⟨ad260, A260_0, c260_0, e260, hx260_0, hl260_0, hi260_0⟩ := at_L2 (Kd.S_reads' HO_23.out).2.2 x25_1 p260 q260
           cases e260
           obtain ⟨ce260, hce260, hMe260, hcc260⟩ := Kd.S_get HO_23.out [] x25_1 p260 (by first | exact q260 | exact of_decide_eq_true (by first | (with_reducible assumption) | assumption) | (have e_ := (Kd.S_reads' HO_23.out).1; omega))
           obtain ⟨ve260_0, rfl, ge260_0⟩ := hMe260
           have hv260_0 := hcc260 0 _ rfl
           rw [Nat.add_zero, show ((Kd.slice 42 k42)).sz = 1 from rfl, Nat.mul_one] at hv260_0
           replace hv260_0 := Option.some.inj (hv260_0.symm.trans hx260_0)
           rw [hv260_0] at ge260_0
           have HL260_0 := Aside0.mk (show Kd.R k42 42 _ _ _ _ (rd_L2 t256 x25_1) from ge260_0)
           clear hv260_0 ge260_0
           clear hcc260 hce260
           have HR260_0 := Aside0.mk hi260_0
           have HC260_0 := Aside0.mk hl260_0
           clear hi260_0 hl260_0
           replace p260 := eq_true p260
           replace q260 := eq_true q260
           have p261 : 0 ≤ (0 : Int) := (by omega)
           have q261 : 0 < ((rd_L2 t256 x25_1).length : Int) := of_decide_eq_true (by first | (with_reducible assumption) | assumption)
           obtain ⟨ad261, e261, hx261_0, hx261_1⟩ := at_T42 (zC HR260_0) 0 p261 q261
           cases e261
           have qi261 : (0 < (rd_L2 t256 x25_1).length) = True := eq_true (by omega)
           (try rw [show ((0 : Int)).toNat = 0 from rfl] at hx261_0)
           (try rw [show 0 * 2 = 0 from rfl] at hx261_0)
           (try rw [Addr.add_zero'] at hx261_0)
           (try rw [show ((0 : Int)).toNat = 0 from rfl] at hx261_1)
           (try rw [show 0 * 2 = 0 from rfl] at hx261_1)
           (try rw [Addr.add_zero'] at hx261_1)
           replace p261 := eq_true p261
           replace q261 := eq_true q261
           go_upto_region 7 with (first | ((with_reducible refine gate_dst (N := 11) rfl ?_); refine box_event ?hg (N := 11) ?hd (cs := #[.int .i64 0, .int .i64 0]) (t := 42) ?hr ?_; (case hd => rfl); (case hg => rfl); (case hr => first | (go_simp; done) | (go_simp; rfl)); intro gb262 hg w29 hbox hb; have n0_ := Aside0.mk (Kd.S_below (Kd.S_elderB (zS HO_23) gb262 (Nat.le_of_eq hg.symm)) hb); have n1_ := Aside0.mk (Kd.R_below (zR HO_260000) hb); have n2_ := Aside0.mk (Kd.R_below (Kd.R_elderB (zR HO_260001) gb262 (Nat.le_of_eq hg.symm)) hb); have n3_ := Aside0.mk (Kd.S_below (Kd.S_elderB (zS HO_260002) gb262 (Nat.le_of_eq hg.symm)) hb); have n4_ := Aside0.mk (Kd.R_below (Kd.R_elderB (zR HL260_0) gb262 (Nat.le_of_eq hg.symm)) hb); have n5_ := Aside0.mk (blk_below (g := gb250) (o := .cells #[.int .i64 a0_0, .slice A0_1 l0_1.length c0_1] 24 (0, 0)) (zK BK250) hb); have n6_ := Aside0.mk (blk_below (g := gb251) (o := .cells #[.slice none 0 0, .slice none 0 0, .slice none 0 0] 28 (0, 0)) (zK BK251) hb); have n7_ := Aside0.mk (blk_below (g := gb259) (o := .cells #[.slice Ao17 t253.length co17, u260001, .slice (some ad260) t256.length co16] 28 (0, 0)) (zK BK259) hb); have n8_ := Aside0.mk (Kd.C_below (zC HR260_0) hb); have n9_ := Aside0.mk (below_step (zB HB) hb); have n10_ := Aside0.mk (hbox); have n11_ := Aside0.mk ((by rw [hg]; exact (below_size (zB HB)) : w.heap.size ≤ gb262)); have n12_ := Aside0.mk ((by rw [hg]; exact (below_size (zB HB)) : w.heap.size ≤ gb262)); have n13_ := Aside0.mk ((by rw [hg]; exact Nat.ne_of_lt (blk_lt (g := gb250) (o := .cells #[.int .i64 a0_0, .slice A0_1 l0_1.length c0_1] 24 (0, 0)) (zK BK250)) : gb250 ≠ gb262)); have n14_ := Aside0.mk ((by rw [hg]; exact Nat.ne_of_gt (blk_lt (g := gb250) (o := .cells #[.int .i64 a0_0, .slice A0_1 l0_1.length c0_1] 24 (0, 0)) (zK BK250)) : gb262 ≠ gb250)); have n15_ := Aside0.mk ((by rw [hg]; exact Nat.ne_of_lt (blk_lt (g := gb251) (o := .cells #[.slice none 0 0, .slice none 0 0, .slice none 0 0] 28 (0, 0)) (zK BK251)) : gb251 ≠ gb262)); have n16_ := Aside0.mk ((by rw [hg]; exact Nat.ne_of_gt (blk_lt (g := gb251) (o := .cells #[.slice none 0 0, .slice none 0 0, .slice none 0 0] 28 (0, 0)) (zK BK251)) : gb262 ≠ gb251)); have n17_ := Aside0.mk ((by rw [hg]; exact Nat.ne_of_lt (blk_lt (g := gb259) (o := .cells #[.slice Ao17 t253.length co17, u260001, .slice (some ad260) t256.length co16] 28 (0, 0)) (zK BK259)) : gb259 ≠ gb262)); have n18_ := Aside0.mk ((by rw [hg]; exact Nat.ne_of_gt (blk_lt (g := gb259) (o := .cells #[.slice Ao17 t253.length co17, u260001, .slice (some ad260) t256.length co16] 28 (0, 0)) (zK BK259)) : gb262 ≠ gb259)); clear HO_23; clear HO_260000; clear HO_260001; clear HO_260002; clear HL260_0; clear BK250; clear BK251; clear BK259; clear HR260_0; clear HB; have HO_23 := n0_; have HO_260000 := n1_; have HO_260001 := n2_; have HO_260002 := n3_; have HL260_0 := n4_; have BK250 := n5_; have BK251 := n6_; have BK259 := n7_; have HR260_0 := n8_; have HB := n9_; have BK262 := n10_; have GW262 := n11_; have GE262 := n12_; have NB250_262 := n13_; have NB262_250 := n14_; have NB251_262 := n15_; have NB262_251 := n16_; have NB259_262 := n17_; have NB262_259 := n18_; clear n0_ n1_ n2_ n3_ n4_ n5_ n6_ n7_ n8_ n9_ n10_ n11_ n12_ n13_ n14_ n15_ n16_ n17_ n18_; clear hb hbox hg; have hnb30 := NB262_250.out; have hnc30 := NB250_262.out; have hnb31 := NB262_251.out; have hnc31 := NB251_262.out; have hnb32 := NB262_259.out; have hnc32 := NB259_262.out; have hcz33_0 : w29.cell? ⟨gb262, 0, none⟩ = some (.int .i64 0) := (blk_cell BK262.out 0).trans rfl; have hcz33_1 : w29.cell? ⟨gb262, 1, none⟩ = some (.int .i64 0) := (blk_cell BK262.out 1).trans rfl; have hfz33_0 := blk_frozen BK262.out 0; have hfz33_1 := blk_frozen BK262.out 1))
           (try simp only [Act.put, List.setIfInBounds_toArray, List.set_cons_zero, List.set_cons_succ])
           go_cut [43] (fun v43 wc => ∃ (kq : Nat) (x43_27 : Bool), v43 = .bool x43_27 ∧ Aside0 (enforce_strict.j1 kq l1 t252 t256 (t256.length : Int) x25_1 x43_27 t253 x260001_1 t256 ((rd_T42 (rd_L2 t256 x25_1) 0).f0) ((rd_T42 (rd_L2 t256 x25_1) 0).f1) = some (r1, r2, r3)) ∧ Aside0 (kq ≤ k1) ∧ Aside0 (Kd.S (Kd.slice 42 k42) 22 wc w.heap.size (fun k_ => some k_ ≠ (u260001 : Value).ownBlock ∧ k_ ≠ gb262) (.slice (some ad260) t256.length co16) t256) ∧ Aside0 (Kd.R (Kd.int .i64) 3 wc w.heap.size (fun _ => True) (.slice Ao17 t253.length co17) t253) ∧ Aside0 (Kd.R k42 42 wc w.heap.size (fun k_ => k_ ≠ gb262) u260001 x260001_1) ∧ Aside0 (Kd.S (Kd.slice 42 k42) 22 wc w.heap.size (fun k_ => some k_ ≠ (u260001 : Value).ownBlock ∧ k_ ≠ gb262) (.slice (some ad260) t256.length co16) t256) ∧ Aside0 (wc.heap[gb250]? = some (.cells #[.int .i64 a0_0, (.slice A0_1 l0_1.length c0_1)] 24 (0, 0))) ∧ Aside0 (wc.heap[gb251]? = some (.cells #[(.slice none 0 0), (.slice none 0 0), (.slice none 0 0)] 28 (0, 0))) ∧ Aside0 (wc.heap[gb259]? = some (.cells #[(.slice Ao17 t253.length co17), u260001, (.slice (some ad260) t256.length co16)] 28 (0, 0))) ∧ Aside0 (wc.heap[gb262]? = some (.cells #[.int .i64 ((rd_T42 (rd_L2 t256 x25_1) 0).f0), .int .i64 ((rd_T42 (rd_L2 t256 x25_1) 0).f1)] 42 (0, 0))) ∧ Aside0 (Kd.C k42 wc (some ad261) (rd_L2 t256 x25_1).length (rd_L2 t256 x25_1)) ∧ Aside0 (Below w.heap.size w wc))
           case first =>
            have H := HC28.out
            clear HC28
            replace H := Option.bind_eq_some_iff.mp H
            obtain ⟨t263, A340, H⟩ := H
            replace H : (if t263 = true then ((network_Set_Has.f t252 ((rd_T42 (rd_L2 t256 x25_1) 0).f1)).bind fun t264 => (enforce_strict.j1 k1 l1 t252 t256 (t256.length : Int) x25_1 (!t264) t253 x260001_1 t256 ((rd_T42 (rd_L2 t256 x25_1) 0).f0) ((rd_T42 (rd_L2 t256 x25_1) 0).f1))) else (enforce_strict.j1 k1 l1 t252 t256 (t256.length : Int) x25_1 true t253 x260001_1 t256 ((rd_T42 (rd_L2 t256 x25_1) 0).f0) ((rd_T42 (rd_L2 t256 x25_1) 0).f1))) = some (r1, r2, r3) := H
            have A34 := Aside0.mk A340
            clear A340
            by_cases c35 : t263 = true
            · subst c35
              have H1 : ((network_Set_Has.f t252 ((rd_T42 (rd_L2 t256 x25_1) 0).f1)).bind fun t264 => (enforce_strict.j1 k1 l1 t252 t256 (t256.length : Int) x25_1 (!t264) t253 x260001_1 t256 ((rd_T42 (rd_L2 t256 x25_1) 0).f0) ((rd_T42 (rd_L2 t256 x25_1) 0).f1))) = some (r1, r2, r3) := by rw [if_pos rfl] at H; exact H
              clear H
              have H := H1
              clear H1
              replace H := Option.bind_eq_some_iff.mp H
              obtain ⟨t264, A360, H⟩ := H
              replace H : (enforce_strict.j1 k1 l1 t252 t256 (t256.length : Int) x25_1 (!t264) t253 x260001_1 t256 ((rd_T42 (rd_L2 t256 x25_1) 0).f0) ((rd_T42 (rd_L2 t256 x25_1) 0).f1)) = some (r1, r2, r3) := H
              have A36 := Aside0.mk A360
              clear A360
              have H' := Aside0.mk H
              clear H
              have hnb37 := NB262_250.out
              have hnc37 := NB250_262.out
              have hnb38 := NB262_251.out
              have hnc38 := NB251_262.out
              have hnb39 := NB262_259.out
              have hnc39 := NB259_262.out
              have hcz40_0 : w29.cell? ⟨gb262, 0, none⟩ = some (.int .i64 0) := (blk_cell BK262.out 0).trans rfl
              have hcz40_1 : w29.cell? ⟨gb262, 1, none⟩ = some (.int .i64 0) := (blk_cell BK262.out 1).trans rfl
              have hfz40_0 := blk_frozen BK262.out 0
              have hfz40_1 := blk_frozen BK262.out 1
              go_wp2_with (first | ((with_reducible refine gate_callee (f := 77) rfl ?_); refine goesL_ (some 35) rfl rfl Tryd.func77 (by kernel_rfl) rfl #[.int .u64 t252, .int .i64 ((rd_T42 (rd_L2 t256 x25_1) 0).f0)] rfl (by (try simp only [List.map_toArray, List.map_cons, List.map_nil]); first | done | rfl | (simp only [List.length_drop, List.length_take]; rfl)) ?_; (with_reducible refine (network_Set_Has.calls t252 ((rd_T42 (rd_L2 t256 x25_1) 0).f0) true _ A34.out).mono ?_); rintro e w' ⟨rfl, ⟨nd, rfl⟩⟩; refine ⟨_, rfl, ?_⟩) | (go_at_call 77; (with_reducible refine (network_Set_Has.calls t252 ((rd_T42 (rd_L2 t256 x25_1) 0).f1) t264 _ A36.out).mono ?_); rintro e w' ⟨rfl, ⟨nd, rfl⟩⟩))
              go_meet
              case rel => exact ⟨_, (!t264), (by first | rfl | (simp; done) | (simp [*]; done)), H', ⟨by have := HK1.out; first | omega | exact Nat.le_refl _⟩, ⟨by (with_reducible repeat (first | apply Kd.S_alloc | apply Kd.S_drewN | apply Kd.S_drew)); exact Kd.S_mono (Kd.S_far (p := ⟨gb262, 1, none⟩) (Kd.S_far (p := ⟨gb262, 0, none⟩) (Kd.S_mono HO_23.out (fun k_ hk => (⟨hk, hk.2⟩ : _ ∧ k_ ≠ gb262))) (fun _ hk => hk.2) (.int .i64 ((rd_T42 (rd_L2 t256 x25_1) 0).f0))) (fun _ hk => hk.2) (.int .i64 ((rd_T42 (rd_L2 t256 x25_1) 0).f1))) (fun _ hk => ⟨hk.1.1, hk.1.2⟩)⟩, ⟨by (with_reducible repeat (first | apply Kd.R_alloc | apply Kd.R_drewN | apply Kd.R_drew)); exact Kd.R_mono (Kd.R_far (p := ⟨gb262, 1, none⟩) (Kd.R_far (p := ⟨gb262, 0, none⟩) (Kd.R_types HO_260000.out BK262.out (by decide)) (fun _ hk => hk.2) (.int .i64 ((rd_T42 (rd_L2 t256 x25_1) 0).f0))) (fun _ hk => hk.2) (.int .i64 ((rd_T42 (rd_L2 t256 x25_1) 0).f1))) (fun _ hk => trivial)⟩, ⟨by (with_reducible repeat (first | apply Kd.R_alloc | apply Kd.R_drewN | apply Kd.R_drew)); exact Kd.R_mono (Kd.R_far (p := ⟨gb262, 1, none⟩) (Kd.R_far (p := ⟨gb262, 0, none⟩) (Kd.R_mono HO_260001.out (fun k_ hk => (⟨hk, hk.2⟩ : _ ∧ k_ ≠ gb262))) (fun _ hk => hk.2) (.int .i64 ((rd_T42 (rd_L2 t256 x25_1) 0).f0))) (fun _ hk => hk.2) (.int .i64 ((rd_T42 (rd_L2 t256 x25_1) 0).f1))) (fun _ hk => hk.1.2)⟩, ⟨by (with_reducible repeat (first | apply Kd.S_alloc | apply Kd.S_drewN | apply Kd.S_drew)); exact Kd.S_mono (Kd.S_far (p := ⟨gb262, 1, none⟩) (Kd.S_far (p := ⟨gb262, 0, none⟩) (Kd.S_mono HO_260002.out (fun k_ hk => (⟨hk, hk.2⟩ : _ ∧ k_ ≠ gb262))) (fun _ hk => hk.2) (.int .i64 ((rd_T42 (rd_L2 t256 x25_1) 0).f0))) (fun _ hk => hk.2) (.int .i64 ((rd_T42 (rd_L2 t256 x25_1) 0).f1))) (fun _ hk => ⟨hk.1.1, hk.1.2⟩)⟩, ⟨by (with_reducible repeat (first | refine blk_drewN ?_ _ | refine blk_drew ?_ | refine blk_alloc ?_ _)); refine blk_far ?_ NB250_262.out _; (with_reducible repeat (first | refine blk_drewN ?_ _ | refine blk_drew ?_ | refine blk_alloc ?_ _)); refine blk_far ?_ NB250_262.out _; (with_reducible repeat (first | refine blk_drewN ?_ _ | refine blk_drew ?_ | refine blk_alloc ?_ _)); exact BK250.out⟩, ⟨by (with_reducible repeat (first | refine blk_drewN ?_ _ | refine blk_drew ?_ | refine blk_alloc ?_ _)); refine blk_far ?_ NB251_262.out _; (with_reducible repeat (first | refine blk_drewN ?_ _ | refine blk_drew ?_ | refine blk_alloc ?_ _)); refine blk_far ?_ NB251_262.out _; (with_reducible repeat (first | refine blk_drewN ?_ _ | refine blk_drew ?_ | refine blk_alloc ?_ _)); exact BK251.out⟩, ⟨by (with_reducible repeat (first | refine blk_drewN ?_ _ | refine blk_drew ?_ | refine blk_alloc ?_ _)); refine blk_far ?_ NB259_262.out _; (with_reducible repeat (first | refine blk_drewN ?_ _ | refine blk_drew ?_ | refine blk_alloc ?_ _)); refine blk_far ?_ NB259_262.out _; (with_reducible repeat (first | refine blk_drewN ?_ _ | refine blk_drew ?_ | refine blk_alloc ?_ _)); exact BK259.out⟩, ⟨by (with_reducible repeat (first | refine blk_drewN ?_ _ | refine blk_drew ?_ | refine blk_alloc ?_ _)); refine blk_put (cs := #[.int .i64 ((rd_T42 (rd_L2 t256 x25_1) 0).f0), .int .i64 0]) ?_ 1 _ rfl; (with_reducible repeat (first | refine blk_drewN ?_ _ | refine blk_drew ?_ | refine blk_alloc ?_ _)); refine blk_put (cs := #[.int .i64 0, .int .i64 0]) ?_ 0 _ rfl; (with_reducible repeat (first | refine blk_drewN ?_ _ | refine blk_drew ?_ | refine blk_alloc ?_ _)); exact BK262.out⟩, ⟨(Kd.R_reads' (by (with_reducible repeat (first | apply Kd.R_alloc | apply Kd.R_drewN | apply Kd.R_drew)); exact (Kd.R_mono (Kd.R_far (p := ⟨gb262, 1, none⟩) (Kd.R_far (p := ⟨gb262, 0, none⟩) (Kd.R_mono HL260_0.out (fun k_ hk => (⟨hk, hk.2⟩ : _ ∧ k_ ≠ gb262))) (fun _ hk => hk.2) (.int .i64 ((rd_T42 (rd_L2 t256 x25_1) 0).f0))) (fun _ hk => hk.2) (.int .i64 ((rd_T42 (rd_L2 t256 x25_1) 0).f1))) (fun _ h_ => h_.1)))).2.2⟩, ⟨zB HB⟩⟩
            · replace c35 := Bool.eq_false_iff.mpr c35
              subst c35
              have H1 : (enforce_strict.j1 k1 l1 t252 t256 (t256.length : Int) x25_1 true t253 x260001_1 t256 ((rd_T42 (rd_L2 t256 x25_1) 0).f0) ((rd_T42 (rd_L2 t256 x25_1) 0).f1)) = some (r1, r2, r3) := by rw [if_neg (show ¬ (false = true) by decide)] at H; exact H
              clear H
              have H := H1
              clear H1
              have H' := Aside0.mk H
              clear H
              have hnb41 := NB262_250.out
              have hnc41 := NB250_262.out
              have hnb42 := NB262_251.out
              have hnc42 := NB251_262.out
              have hnb43 := NB262_259.out
              have hnc43 := NB259_262.out
              have hcz44_0 : w29.cell? ⟨gb262, 0, none⟩ = some (.int .i64 0) := (blk_cell BK262.out 0).trans rfl
              have hcz44_1 : w29.cell? ⟨gb262, 1, none⟩ = some (.int .i64 0) := (blk_cell BK262.out 1).trans rfl
              have hfz44_0 := blk_frozen BK262.out 0
              have hfz44_1 := blk_frozen BK262.out 1
              go_wp2_with (first | ((with_reducible refine gate_callee (f := 77) rfl ?_); refine goesL_ (some 35) rfl rfl Tryd.func77 (by kernel_rfl) rfl #[.int .u64 t252, .int .i64 ((rd_T42 (rd_L2 t256 x25_1) 0).f0)] rfl (by (try simp only [List.map_toArray, List.map_cons, List.map_nil]); first | done | rfl | (simp only [List.length_drop, List.length_take]; rfl)) ?_; (with_reducible refine (network_Set_Has.calls t252 ((rd_T42 (rd_L2 t256 x25_1) 0).f0) false _ A34.out).mono ?_); rintro e w' ⟨rfl, ⟨nd, rfl⟩⟩; refine ⟨_, rfl, ?_⟩))
              go_meet
              case rel => exact ⟨_, (true), (by first | rfl | (simp; done) | (simp [*]; done)), H', ⟨by have := HK1.out; first | omega | exact Nat.le_refl _⟩, ⟨by (with_reducible repeat (first | apply Kd.S_alloc | apply Kd.S_drewN | apply Kd.S_drew)); exact Kd.S_mono (Kd.S_far (p := ⟨gb262, 1, none⟩) (Kd.S_far (p := ⟨gb262, 0, none⟩) (Kd.S_mono HO_23.out (fun k_ hk => (⟨hk, hk.2⟩ : _ ∧ k_ ≠ gb262))) (fun _ hk => hk.2) (.int .i64 ((rd_T42 (rd_L2 t256 x25_1) 0).f0))) (fun _ hk => hk.2) (.int .i64 ((rd_T42 (rd_L2 t256 x25_1) 0).f1))) (fun _ hk => ⟨hk.1.1, hk.1.2⟩)⟩, ⟨by (with_reducible repeat (first | apply Kd.R_alloc | apply Kd.R_drewN | apply Kd.R_drew)); exact Kd.R_mono (Kd.R_far (p := ⟨gb262, 1, none⟩) (Kd.R_far (p := ⟨gb262, 0, none⟩) (Kd.R_types HO_260000.out BK262.out (by decide)) (fun _ hk => hk.2) (.int .i64 ((rd_T42 (rd_L2 t256 x25_1) 0).f0))) (fun _ hk => hk.2) (.int .i64 ((rd_T42 (rd_L2 t256 x25_1) 0).f1))) (fun _ hk => trivial)⟩, ⟨by (with_reducible repeat (first | apply Kd.R_alloc | apply Kd.R_drewN | apply Kd.R_drew)); exact Kd.R_mono (Kd.R_far (p := ⟨gb262, 1, none⟩) (Kd.R_far (p := ⟨gb262, 0, none⟩) (Kd.R_mono HO_260001.out (fun k_ hk => (⟨hk, hk.2⟩ : _ ∧ k_ ≠ gb262))) (fun _ hk => hk.2) (.int .i64 ((rd_T42 (rd_L2 t256 x25_1) 0).f0))) (fun _ hk => hk.2) (.int .i64 ((rd_T42 (rd_L2 t256 x25_1) 0).f1))) (fun _ hk => hk.1.2)⟩, ⟨by (with_reducible repeat (first | apply Kd.S_alloc | apply Kd.S_drewN | apply Kd.S_drew)); exact Kd.S_mono (Kd.S_far (p := ⟨gb262, 1, none⟩) (Kd.S_far (p := ⟨gb262, 0, none⟩) (Kd.S_mono HO_260002.out (fun k_ hk => (⟨hk, hk.2⟩ : _ ∧ k_ ≠ gb262))) (fun _ hk => hk.2) (.int .i64 ((rd_T42 (rd_L2 t256 x25_1) 0).f0))) (fun _ hk => hk.2) (.int .i64 ((rd_T42 (rd_L2 t256 x25_1) 0).f1))) (fun _ hk => ⟨hk.1.1, hk.1.2⟩)⟩, ⟨by (with_reducible repeat (first | refine blk_drewN ?_ _ | refine blk_drew ?_ | refine blk_alloc ?_ _)); refine blk_far ?_ NB250_262.out _; (with_reducible repeat (first | refine blk_drewN ?_ _ | refine blk_drew ?_ | refine blk_alloc ?_ _)); refine blk_far ?_ NB250_262.out _; (with_reducible repeat (first | refine blk_drewN ?_ _ | refine blk_drew ?_ | refine blk_alloc ?_ _)); exact BK250.out⟩, ⟨by (with_reducible repeat (first | refine blk_drewN ?_ _ | refine blk_drew ?_ | refine blk_alloc ?_ _)); refine blk_far ?_ NB251_262.out _; (with_reducible repeat (first | refine blk_drewN ?_ _ | refine blk_drew ?_ | refine blk_alloc ?_ _)); refine blk_far ?_ NB251_262.out _; (with_reducible repeat (first | refine blk_drewN ?_ _ | refine blk_drew ?_ | refine blk_alloc ?_ _)); exact BK251.out⟩, ⟨by (with_reducible repeat (first | refine blk_drewN ?_ _ | refine blk_drew ?_ | refine blk_alloc ?_ _)); refine blk_far ?_ NB259_262.out _; (with_reducible repeat (first | refine blk_drewN ?_ _ | refine blk_drew ?_ | refine blk_alloc ?_ _)); refine blk_far ?_ NB259_262.out _; (with_reducible repeat (first | refine blk_drewN ?_ _ | refine blk_drew ?_ | refine blk_alloc ?_ _)); exact BK259.out⟩, ⟨by (with_reducible repeat (first | refine blk_drewN ?_ _ | refine blk_drew ?_ | refine blk_alloc ?_ _)); refine blk_put (cs := #[.int .i64 ((rd_T42 (rd_L2 t256 x25_1) 0).f0), .int .i64 0]) ?_ 1 _ rfl; (with_reducible repeat (first | refine blk_drewN ?_ _ | refine blk_drew ?_ | refine blk_alloc ?_ _)); refine blk_put (cs := #[.int .i64 0, .int .i64 0]) ?_ 0 _ rfl; (with_reducible repeat (first | refine blk_drewN ?_ _ | refine blk_drew ?_ | refine blk_alloc ?_ _)); exact BK262.out⟩, ⟨(Kd.R_reads' (by (with_reducible repeat (first | apply Kd.R_alloc | apply Kd.R_drewN | apply Kd.R_drew)); exact (Kd.R_mono (Kd.R_far (p := ⟨gb262, 1, none⟩) (Kd.R_far (p := ⟨gb262, 0, none⟩) (Kd.R_mono HL260_0.out (fun k_ hk => (⟨hk, hk.2⟩ : _ ∧ k_ ≠ gb262))) (fun _ hk => hk.2) (.int .i64 ((rd_T42 (rd_L2 t256 x25_1) 0).f0))) (fun _ hk => hk.2) (.int .i64 ((rd_T42 (rd_L2 t256 x25_1) 0).f1))) (fun _ h_ => h_.1)))).2.2⟩, ⟨zB HB⟩⟩
           case rest =>
            clear HC28
            try clear c1
            try clear c2
            try clear p2
            try clear q2
            try clear hx2
            try clear qi2
            try clear c3
            try clear c4
            try clear c5
            try clear c7
            try clear c21
            try clear c22
            try clear c24
            try clear c24b0
            try clear c25
            try clear c25b0
            try clear c26
            try clear c26b0
            try clear p26
            try clear q26
            try clear hx26
            try clear qi26
            try clear c27
            try clear c27b0
            try clear c27b1
            try clear c30
            try clear c31
            try clear c32
            try clear c35
            try clear c37
            try clear c38
            try clear c39
            try clear c41
            try clear c42
            try clear c43
            try clear hcz23_0
            try clear hcz23_1
            try clear hcz23_2
            try clear hcz33_0
            try clear hcz33_1
            try clear hcz40_0
            try clear hcz40_1
            try clear hcz44_0
            try clear hcz44_1
            try clear hfz23_0
            try clear hfz23_1
            try clear hfz23_2
            try clear hfz33_0
            try clear hfz33_1
            try clear hfz40_0
            try clear hfz40_1
            try clear hfz44_0
            try clear hfz44_1
            try clear hx260_0
            try clear hx261_0
            try clear hx261_1
            try clear p2
            try clear p260
            try clear p261
            try clear q260
            try clear q261
            obtain ⟨kq, x43_27, rfl, HA, HJ27, HO_23, HO_260000, HO_260001, HO_260002, BK250, BK251, BK259, BK262, HR260_0, HB⟩ := hcut
            cases kq with
            | zero => exact absurd HA.out (by simp [enforce_strict.j1])
            | succ kj27 =>
             have H := HA.out
             clear HA
             simp only [enforce_strict.j1] at H
             by_cases c45 : x43_27 = true
             · subst c45
               have H1 : ((network_Set_Has.f t252 ((rd_T42 (rd_L2 t256 x25_1) 0).f1)).bind fun t265 => (if t265 = true then (if 0 < (l1.length : Int) then (if x260001_1.length < 8796093022208 then (enforce_strict.l0 kj27 l1 t252 t256 (t256.length : Int) (wrap64 (x25_1 + 1)) t253 (x260001_1 ++ [(⟨rd l1 0, ((rd_T42 (rd_L2 t256 x25_1) 0).f0)⟩ : S42)]) t256) else (none)) else (none)) else (if 0 < (l1.length : Int) then (if x260001_1.length < 8796093022208 then (enforce_strict.l0 kj27 l1 t252 t256 (t256.length : Int) (wrap64 (x25_1 + 1)) t253 (x260001_1 ++ [(⟨rd l1 0, ((rd_T42 (rd_L2 t256 x25_1) 0).f1)⟩ : S42)]) t256) else (none)) else (none)))) = some (r1, r2, r3) := by rw [if_pos rfl] at H; exact H
               clear H
               have H := H1
               clear H1
               replace H := Option.bind_eq_some_iff.mp H
               obtain ⟨t265, A460, H⟩ := H
               replace H : (if t265 = true then (if 0 < (l1.length : Int) then (if x260001_1.length < 8796093022208 then (enforce_strict.l0 kj27 l1 t252 t256 (t256.length : Int) (wrap64 (x25_1 + 1)) t253 (x260001_1 ++ [(⟨rd l1 0, ((rd_T42 (rd_L2 t256 x25_1) 0).f0)⟩ : S42)]) t256) else (none)) else (none)) else (if 0 < (l1.length : Int) then (if x260001_1.length < 8796093022208 then (enforce_strict.l0 kj27 l1 t252 t256 (t256.length : Int) (wrap64 (x25_1 + 1)) t253 (x260001_1 ++ [(⟨rd l1 0, ((rd_T42 (rd_L2 t256 x25_1) 0).f1)⟩ : S42)]) t256) else (none)) else (none))) = some (r1, r2, r3) := H
               have A46 := Aside0.mk A460
               clear A460
               by_cases c47 : t265 = true
               · subst c47
                 have H1 : (if 0 < (l1.length : Int) then (if x260001_1.length < 8796093022208 then (enforce_strict.l0 kj27 l1 t252 t256 (t256.length : Int) (wrap64 (x25_1 + 1)) t253 (x260001_1 ++ [(⟨rd l1 0, ((rd_T42 (rd_L2 t256 x25_1) 0).f0)⟩ : S42)]) t256) else (none)) else (none)) = some (r1, r2, r3) := by rw [if_pos rfl] at H; exact H
                 clear H
                 have H := H1
                 clear H1
                 by_cases c48 : 0 < (l1.length : Int)
                 · rw [if_pos c48] at H
                   have c48b0 : decide (0 < (l1.length : Int)) = true := decide_eq_true c48
                   have c48b1 : decide (0 < l1.length) = true := decide_eq_true (by omega)
                   clear c48
                   by_cases c49 : x260001_1.length < 8796093022208
                   · rw [if_pos c49] at H
                     have LMc49 := Aside0.mk c49
                     clear c49
                     obtain ⟨y267, hy267⟩ : ∃ y_ : List (S42), y_ = (x260001_1 ++ [(⟨rd l1 0, ((rd_T42 (rd_L2 t256 x25_1) 0).f0)⟩ : S42)]) := ⟨_, rfl⟩
                     replace H : (enforce_strict.l0 kj27 l1 t252 t256 (t256.length : Int) (wrap64 (x25_1 + 1)) t253 y267 t256) = some (r1, r2, r3) := by first | (rw [hy267]; with_reducible exact H) | (have H2_ := (Option.bind_some _ _).symm.trans H; rw [hy267]; with_reducible exact H2_) | (have H2_ := (Option.bind_some _ _).symm.trans H; with_reducible exact H2_) | with_reducible exact H | (rw [hy267]; exact H) | exact H
                     have Ny267 := Aside0.mk hy267
                     clear hy267
                     have H' := Aside0.mk H
                     clear H
                     have hnb50 := NB262_250.out
                     have hnc50 := NB250_262.out
                     have hnb51 := NB262_251.out
                     have hnc51 := NB251_262.out
                     have hnb52 := NB262_259.out
                     have hnc52 := NB259_262.out
                     have hcz53_0 : wc.cell? ⟨gb262, 0, none⟩ = some (.int .i64 ((rd_T42 (rd_L2 t256 x25_1) 0).f0)) := (blk_cell BK262.out 0).trans rfl
                     have hcz53_1 : wc.cell? ⟨gb262, 1, none⟩ = some (.int .i64 ((rd_T42 (rd_L2 t256 x25_1) 0).f1)) := (blk_cell BK262.out 1).trans rfl
                     have hfz53_0 := blk_frozen BK262.out 0
                     have hfz53_1 := blk_frozen BK262.out 1
                     go_wp2_with (first | ((with_reducible refine gate_callee (f := 77) rfl ?_); refine goesL_ (some 49) rfl rfl Tryd.func77 (by kernel_rfl) rfl #[.int .u64 t252, .int .i64 ((rd_T42 (rd_L2 t256 x25_1) 0).f1)] rfl (by (try simp only [List.map_toArray, List.map_cons, List.map_nil]); first | done | rfl | (simp only [List.length_drop, List.length_take]; rfl)) ?_; (with_reducible refine (network_Set_Has.calls t252 ((rd_T42 (rd_L2 t256 x25_1) 0).f1) true _ A46.out).mono ?_); rintro e w' ⟨rfl, ⟨nd, rfl⟩⟩; refine ⟨_, rfl, ?_⟩; (try (rw [drewN_self wc]; generalize hq_ : World.drewN wc _ = wc; have n0_ : Aside0 (Kd.S (Kd.slice 42 k42) 22 wc w.heap.size (fun k_ => some k_ ≠ (u260001 : Value).ownBlock ∧ k_ ≠ gb262) (.slice (some ad260) t256.length co16) t256) := ⟨by rw [← hq_]; exact (zS HO_23)⟩; have n1_ : Aside0 (Kd.R (Kd.int .i64) 3 wc w.heap.size (fun _ => True) (.slice Ao17 t253.length co17) t253) := ⟨by rw [← hq_]; exact (zR HO_260000)⟩; have n2_ : Aside0 (Kd.R k42 42 wc w.heap.size (fun k_ => k_ ≠ gb262) u260001 x260001_1) := ⟨by rw [← hq_]; exact (zR HO_260001)⟩; have n3_ : Aside0 (Kd.S (Kd.slice 42 k42) 22 wc w.heap.size (fun k_ => some k_ ≠ (u260001 : Value).ownBlock ∧ k_ ≠ gb262) (.slice (some ad260) t256.length co16) t256) := ⟨by rw [← hq_]; exact (zS HO_260002)⟩; have n4_ : Aside0 (wc.heap[gb250]? = some (.cells #[.int .i64 a0_0, .slice A0_1 l0_1.length c0_1] 24 (0, 0))) := ⟨by rw [← hq_]; exact (zK BK250)⟩; have n5_ : Aside0 (wc.heap[gb251]? = some (.cells #[.slice none 0 0, .slice none 0 0, .slice none 0 0] 28 (0, 0))) := ⟨by rw [← hq_]; exact (zK BK251)⟩; have n6_ : Aside0 (wc.heap[gb259]? = some (.cells #[.slice Ao17 t253.length co17, u260001, .slice (some ad260) t256.length co16] 28 (0, 0))) := ⟨by rw [← hq_]; exact (zK BK259)⟩; have n7_ : Aside0 (wc.heap[gb262]? = some (.cells #[.int .i64 ((rd_T42 (rd_L2 t256 x25_1) 0).f0), .int .i64 ((rd_T42 (rd_L2 t256 x25_1) 0).f1)] 42 (0, 0))) := ⟨by rw [← hq_]; exact (zK BK262)⟩; have n8_ : Aside0 (Below w.heap.size w wc) := ⟨by rw [← hq_]; exact (zB HB)⟩; have n9_ : Aside0 (Kd.C k42 wc (some ad261) (rd_L2 t256 x25_1).length (rd_L2 t256 x25_1)) := ⟨by rw [← hq_]; exact (zC HR260_0)⟩; clear HO_23 HO_260000 HO_260001 HO_260002 BK250 BK251 BK259 BK262 HB HR260_0 hq_; have HO_23 := n0_; have HO_260000 := n1_; have HO_260001 := n2_; have HO_260002 := n3_; have BK250 := n4_; have BK251 := n5_; have BK259 := n6_; have BK262 := n7_; have HB := n8_; have HR260_0 := n9_; clear n0_ n1_ n2_ n3_ n4_ n5_ n6_ n7_ n8_ n9_)); have hcz54_0 : wc.cell? ⟨gb262, 0, none⟩ = some (.int .i64 ((rd_T42 (rd_L2 t256 x25_1) 0).f0)) := (blk_cell BK262.out 0).trans rfl; have hcz54_1 : wc.cell? ⟨gb262, 1, none⟩ = some (.int .i64 ((rd_T42 (rd_L2 t256 x25_1) 0).f1)) := (blk_cell BK262.out 1).trans rfl; have hfz54_0 := blk_frozen BK262.out 0; have hfz54_1 := blk_frozen BK262.out 1; have p266 : 0 ≤ (0 : Int) := (by omega); have q266 : 0 < (l1.length : Int) := of_decide_eq_true (by first | (with_reducible assumption) | assumption); obtain ⟨ad266, e266, hx266_0⟩ := Kd.at_int HR1.out 0 p266 q266; cases e266; have qi266 : (0 < l1.length) = True := eq_true (by omega); (try rw [show ((0 : Int)).toNat = 0 from rfl] at hx266_0); (try rw [Addr.add_zero'] at hx266_0); replace hx266_0 := (HB.out.cell (World.block_lt_of_cell? w _ hx266_0)).trans hx266_0; replace p266 := eq_true p266; replace q266 := eq_true q266; have hnb55 := NB259_250.out; have hnc55 := NB250_259.out; have hnb56 := NB259_251.out; have hnc56 := NB251_259.out; have hcz57_0 : wc.cell? ⟨gb259, 0, none⟩ = some (.slice Ao17 t253.length co17) := (blk_cell BK259.out 0).trans rfl; have hcz57_1 : wc.cell? ⟨gb259, 1, none⟩ = some (u260001) := (blk_cell BK259.out 1).trans rfl; have hcz57_2 : wc.cell? ⟨gb259, 2, none⟩ = some (.slice (some ad260) t256.length co16) := (blk_cell BK259.out 2).trans rfl; have hfz57_0 := blk_frozen BK259.out 0; have hfz57_1 := blk_frozen BK259.out 1; have hfz57_2 := blk_frozen BK259.out 2) | ((with_reducible refine gate_builtin (b := .append) (xs := #[.tmp 58, .tmp 60]) rfl ?_); at_builtin; refine Kd.R_append k42 (w0 := w) w.heap.size rfl (.tmp 58) (.tmp 60) 22 42 (.agg #[(.int .i64 0), (.int .i64 0)]) 16 rfl Tryd.underlying22 info42 rfl (by decide) (by omega) u260001 x260001_1 (⟨rd l1 0, ((rd_T42 (rd_L2 t256 x25_1) 0).f0)⟩ : S42) [.int .i64 (rd l1 0), .int .i64 ((rd_T42 (rd_L2 t256 x25_1) 0).f0)] (fun k_ => k_ ≠ gb262) (fun _ => False) rfl (by first | (go_simp; done) | (go_simp; rfl)) ?aP (fun _ hk => hk.elim) ?aF ?aO ?aB ?aS ?aL ?_; (case aP => exact k42_mkM _ _ _ (⟨rd l1 0, ((rd_T42 (rd_L2 t256 x25_1) 0).f0)⟩ : S42)); (case aB => exact (zB HB)); (case aF => exact (fun k_ hk => Kd.freshB (g := gb262) (o := .cells #[.int .i64 (rd l1 0), .int .i64 ((rd_T42 (rd_L2 t256 x25_1) 0).f0)] 42 (0, 0)) (by (with_reducible repeat (first | refine blk_drewN ?_ _ | refine blk_drew ?_ | refine blk_alloc ?_ _)); refine blk_put (cs := #[.int .i64 (rd l1 0), .int .i64 ((rd_T42 (rd_L2 t256 x25_1) 0).f1)]) ?_ 1 _ rfl; (with_reducible repeat (first | refine blk_drewN ?_ _ | refine blk_drew ?_ | refine blk_alloc ?_ _)); refine blk_put (cs := #[.int .i64 ((rd_T42 (rd_L2 t256 x25_1) 0).f0), .int .i64 ((rd_T42 (rd_L2 t256 x25_1) 0).f1)]) ?_ 0 _ rfl; (with_reducible repeat (first | refine blk_drewN ?_ _ | refine blk_drew ?_ | refine blk_alloc ?_ _)); exact BK262.out) k_ hk)); (case aO => exact (by (with_reducible repeat (first | apply Kd.R_alloc | apply Kd.R_drewN | apply Kd.R_drew)); exact Kd.R_mono (Kd.R_far (p := ⟨gb262, 1, none⟩) (Kd.R_far (p := ⟨gb262, 0, none⟩) (Kd.R_mono HO_260001.out (fun k_ hk => (⟨hk, hk⟩ : _ ∧ k_ ≠ gb262))) (fun _ hk => hk.2) (.int .i64 (rd l1 0))) (fun _ hk => hk.2) (.int .i64 ((rd_T42 (rd_L2 t256 x25_1) 0).f0))) (fun _ hk => hk.1))); (case aS => exact (below_size (zB HB))); (case aL => have := LMc49.out; omega); intro v268 w58 ho hb hg hat; rw [← Ny267.out] at ho; have n0_ := Aside0.mk (Kd.S_after (ok := (fun k_ => k_ ≠ gb262)) (by (with_reducible repeat (first | apply Kd.S_alloc | apply Kd.S_drewN | apply Kd.S_drew)); exact Kd.S_mono (Kd.S_far (p := ⟨gb262, 1, none⟩) (Kd.S_far (p := ⟨gb262, 0, none⟩) (Kd.S_mono HO_23.out (fun k_ hk => (⟨hk, hk.2⟩ : _ ∧ k_ ≠ gb262))) (fun _ hk => hk.2) (.int .i64 (rd l1 0))) (fun _ hk => hk.2) (.int .i64 ((rd_T42 (rd_L2 t256 x25_1) 0).f0))) (fun _ hk => ⟨hk.1.2, hk.1.1⟩)) hg hat); have n1_ := Aside0.mk (Kd.R_over' (by (with_reducible repeat (first | apply Kd.R_alloc | apply Kd.R_drewN | apply Kd.R_drew)); exact (Kd.R_mono (Kd.R_far (p := ⟨gb262, 1, none⟩) (Kd.R_far (p := ⟨gb262, 0, none⟩) (Kd.R_types HO_260000.out BK262.out (by decide)) (fun _ hk => hk.2) (.int .i64 (rd l1 0))) (fun _ hk => hk.2) (.int .i64 ((rd_T42 (rd_L2 t256 x25_1) 0).f0))) (fun _ h_ => h_.1))) (Kd.R_typed (by (with_reducible repeat (first | apply Kd.R_alloc | apply Kd.R_drewN | apply Kd.R_drew)); exact (Kd.R_mono (Kd.R_far (p := ⟨gb262, 1, none⟩) (Kd.R_far (p := ⟨gb262, 0, none⟩) (Kd.R_mono HO_260001.out (fun k_ hk => (⟨hk, hk⟩ : _ ∧ k_ ≠ gb262))) (fun _ hk => hk.2) (.int .i64 (rd l1 0))) (fun _ hk => hk.2) (.int .i64 ((rd_T42 (rd_L2 t256 x25_1) 0).f0))) (fun _ h_ => h_.1)))) (by decide) hg); have n2_ := Aside0.mk (Kd.S_after (ok := (fun k_ => k_ ≠ gb262)) (by (with_reducible repeat (first | apply Kd.S_alloc | apply Kd.S_drewN | apply Kd.S_drew)); exact Kd.S_mono (Kd.S_far (p := ⟨gb262, 1, none⟩) (Kd.S_far (p := ⟨gb262, 0, none⟩) (Kd.S_mono HO_260002.out (fun k_ hk => (⟨hk, hk.2⟩ : _ ∧ k_ ≠ gb262))) (fun _ hk => hk.2) (.int .i64 (rd l1 0))) (fun _ hk => hk.2) (.int .i64 ((rd_T42 (rd_L2 t256 x25_1) 0).f0))) (fun _ hk => ⟨hk.1.2, hk.1.1⟩)) hg hat); have n3_ := Aside0.mk (blk_grown (g := gb250) (o := .cells #[.int .i64 a0_0, .slice A0_1 l0_1.length c0_1] 24 (0, 0)) (by (with_reducible repeat (first | refine blk_drewN ?_ _ | refine blk_drew ?_ | refine blk_alloc ?_ _)); refine blk_far ?_ NB250_262.out _; (with_reducible repeat (first | refine blk_drewN ?_ _ | refine blk_drew ?_ | refine blk_alloc ?_ _)); refine blk_far ?_ NB250_262.out _; (with_reducible repeat (first | refine blk_drewN ?_ _ | refine blk_drew ?_ | refine blk_alloc ?_ _)); exact BK250.out) hg (Kd.R_ne HO_260001.out BK250.out (by decide))); have n4_ := Aside0.mk (blk_grown (g := gb251) (o := .cells #[.slice none 0 0, .slice none 0 0, .slice none 0 0] 28 (0, 0)) (by (with_reducible repeat (first | refine blk_drewN ?_ _ | refine blk_drew ?_ | refine blk_alloc ?_ _)); refine blk_far ?_ NB251_262.out _; (with_reducible repeat (first | refine blk_drewN ?_ _ | refine blk_drew ?_ | refine blk_alloc ?_ _)); refine blk_far ?_ NB251_262.out _; (with_reducible repeat (first | refine blk_drewN ?_ _ | refine blk_drew ?_ | refine blk_alloc ?_ _)); exact BK251.out) hg (Kd.R_ne HO_260001.out BK251.out (by decide))); have n5_ := Aside0.mk (blk_grown (g := gb259) (o := .cells #[.slice Ao17 t253.length co17, u260001, .slice (some ad260) t256.length co16] 28 (0, 0)) (by (with_reducible repeat (first | refine blk_drewN ?_ _ | refine blk_drew ?_ | refine blk_alloc ?_ _)); refine blk_far ?_ NB259_262.out _; (with_reducible repeat (first | refine blk_drewN ?_ _ | refine blk_drew ?_ | refine blk_alloc ?_ _)); refine blk_far ?_ NB259_262.out _; (with_reducible repeat (first | refine blk_drewN ?_ _ | refine blk_drew ?_ | refine blk_alloc ?_ _)); exact BK259.out) hg (Kd.R_ne HO_260001.out BK259.out (by decide))); have n6_ := Aside0.mk (blk_grown (g := gb262) (o := .cells #[.int .i64 (rd l1 0), .int .i64 ((rd_T42 (rd_L2 t256 x25_1) 0).f0)] 42 (0, 0)) (by (with_reducible repeat (first | refine blk_drewN ?_ _ | refine blk_drew ?_ | refine blk_alloc ?_ _)); refine blk_put (cs := #[.int .i64 (rd l1 0), .int .i64 ((rd_T42 (rd_L2 t256 x25_1) 0).f1)]) ?_ 1 _ rfl; (with_reducible repeat (first | refine blk_drewN ?_ _ | refine blk_drew ?_ | refine blk_alloc ?_ _)); refine blk_put (cs := #[.int .i64 ((rd_T42 (rd_L2 t256 x25_1) 0).f0), .int .i64 ((rd_T42 (rd_L2 t256 x25_1) 0).f1)]) ?_ 0 _ rfl; (with_reducible repeat (first | refine blk_drewN ?_ _ | refine blk_drew ?_ | refine blk_alloc ?_ _)); exact BK262.out) hg (Kd.R_away HO_260001.out (fun _ hk => hk))); have n7_ := Aside0.mk (hb); have n8_ := Aside0.mk (ho); clear HO_23; clear HO_260000; clear HO_260002; clear BK250; clear BK251; clear BK259; clear BK262; clear HB; clear HO_260001; have HO_23 := n0_; have HO_260000 := n1_; have HO_260002 := n2_; have BK250 := n3_; have BK251 := n4_; have BK259 := n5_; have BK262 := n6_; have HB := n7_; have HO269 := n8_; clear n0_ n1_ n2_ n3_ n4_ n5_ n6_ n7_ n8_; clear ho hb hg hat; obtain ⟨Ao59, co59, eo59⟩ := Kd.R_slice HO269.out; subst eo59; have hcz60_0 : w58.cell? ⟨gb259, 0, none⟩ = some (.slice Ao17 t253.length co17) := (blk_cell BK259.out 0).trans rfl; have hcz60_1 : w58.cell? ⟨gb259, 1, none⟩ = some (u260001) := (blk_cell BK259.out 1).trans rfl; have hcz60_2 : w58.cell? ⟨gb259, 2, none⟩ = some (.slice (some ad260) t256.length co16) := (blk_cell BK259.out 2).trans rfl; have hfz60_0 := blk_frozen BK259.out 0; have hfz60_1 := blk_frozen BK259.out 1; have hfz60_2 := blk_frozen BK259.out 2))
                     go_roundg kj27
                     case measure => have := HK1.out; have := HJ27.out; omega
                     case rel => exact ⟨(wrap64 (x25_1 + 1)), (y267), (.slice Ao59 y267.length co59), (by first | rfl | (simp; done) | (simp [*]; done)), H', ⟨by have := HK1.out; have := HJ27.out; omega⟩, ⟨by (with_reducible repeat (first | apply Kd.S_alloc | apply Kd.S_drewN | apply Kd.S_drew)); exact Kd.S_mono (Kd.S_far (p := ⟨gb259, 1, none⟩) (Kd.S_types HO_23.out BK259.out (by decide)) (fun _ hk => hk.2) (.slice Ao59 y267.length co59)) (fun _ hk => hk.1.2)⟩, ⟨by (with_reducible repeat (first | apply Kd.R_alloc | apply Kd.R_drewN | apply Kd.R_drew)); exact Kd.R_mono (Kd.R_far (p := ⟨gb259, 1, none⟩) (Kd.R_types HO_260000.out BK259.out (by decide)) (fun _ hk => hk.2) (.slice Ao59 y267.length co59)) (fun _ hk => trivial)⟩, ⟨by (with_reducible repeat (first | apply Kd.R_alloc | apply Kd.R_drewN | apply Kd.R_drew)); exact Kd.R_mono (Kd.R_far (p := ⟨gb259, 1, none⟩) (Kd.R_types HO269.out BK259.out (by decide)) (fun _ hk => hk.2) (.slice Ao59 y267.length co59)) (fun _ hk => trivial)⟩, ⟨by (with_reducible repeat (first | apply Kd.S_alloc | apply Kd.S_drewN | apply Kd.S_drew)); exact Kd.S_mono (Kd.S_far (p := ⟨gb259, 1, none⟩) (Kd.S_types HO_260002.out BK259.out (by decide)) (fun _ hk => hk.2) (.slice Ao59 y267.length co59)) (fun _ hk => hk.1.2)⟩, ⟨by (with_reducible repeat (first | refine blk_drewN ?_ _ | refine blk_drew ?_ | refine blk_alloc ?_ _)); refine blk_far ?_ NB250_259.out _; (with_reducible repeat (first | refine blk_drewN ?_ _ | refine blk_drew ?_ | refine blk_alloc ?_ _)); exact BK250.out⟩, ⟨by (with_reducible repeat (first | refine blk_drewN ?_ _ | refine blk_drew ?_ | refine blk_alloc ?_ _)); refine blk_far ?_ NB251_259.out _; (with_reducible repeat (first | refine blk_drewN ?_ _ | refine blk_drew ?_ | refine blk_alloc ?_ _)); exact BK251.out⟩, ⟨by (with_reducible repeat (first | refine blk_drewN ?_ _ | refine blk_drew ?_ | refine blk_alloc ?_ _)); refine blk_put (cs := #[.slice Ao17 t253.length co17, u260001, .slice (some ad260) t256.length co16]) ?_ 1 _ rfl; (with_reducible repeat (first | refine blk_drewN ?_ _ | refine blk_drew ?_ | refine blk_alloc ?_ _)); exact BK259.out⟩, ⟨zB HB⟩⟩
                   · rw [if_neg c49] at H
                     exact absurd H (by simp)
                 · rw [if_neg c48] at H
                   exact absurd H (by simp)
               · replace c47 := Bool.eq_false_iff.mpr c47
                 subst c47
                 have H1 : (if 0 < (l1.length : Int) then (if x260001_1.length < 8796093022208 then (enforce_strict.l0 kj27 l1 t252 t256 (t256.length : Int) (wrap64 (x25_1 + 1)) t253 (x260001_1 ++ [(⟨rd l1 0, ((rd_T42 (rd_L2 t256 x25_1) 0).f1)⟩ : S42)]) t256) else (none)) else (none)) = some (r1, r2, r3) := by rw [if_neg (show ¬ (false = true) by decide)] at H; exact H
                 clear H
                 have H := H1
                 clear H1
                 by_cases c61 : 0 < (l1.length : Int)
                 · rw [if_pos c61] at H
                   have c61b0 : decide (0 < (l1.length : Int)) = true := decide_eq_true c61
                   have c61b1 : decide (0 < l1.length) = true := decide_eq_true (by omega)
                   clear c61
                   by_cases c62 : x260001_1.length < 8796093022208
                   · rw [if_pos c62] at H
                     have LMc62 := Aside0.mk c62
                     clear c62
                     obtain ⟨y271, hy271⟩ : ∃ y_ : List (S42), y_ = (x260001_1 ++ [(⟨rd l1 0, ((rd_T42 (rd_L2 t256 x25_1) 0).f1)⟩ : S42)]) := ⟨_, rfl⟩
                     replace H : (enforce_strict.l0 kj27 l1 t252 t256 (t256.length : Int) (wrap64 (x25_1 + 1)) t253 y271 t256) = some (r1, r2, r3) := by first | (rw [hy271]; with_reducible exact H) | (have H2_ := (Option.bind_some _ _).symm.trans H; rw [hy271]; with_reducible exact H2_) | (have H2_ := (Option.bind_some _ _).symm.trans H; with_reducible exact H2_) | with_reducible exact H | (rw [hy271]; exact H) | exact H
                     have Ny271 := Aside0.mk hy271
                     clear hy271
                     have H' := Aside0.mk H
                     clear H
                     have hnb63 := NB262_250.out
                     have hnc63 := NB250_262.out
                     have hnb64 := NB262_251.out
                     have hnc64 := NB251_262.out
                     have hnb65 := NB262_259.out
                     have hnc65 := NB259_262.out
                     have hcz66_0 : wc.cell? ⟨gb262, 0, none⟩ = some (.int .i64 ((rd_T42 (rd_L2 t256 x25_1) 0).f0)) := (blk_cell BK262.out 0).trans rfl
                     have hcz66_1 : wc.cell? ⟨gb262, 1, none⟩ = some (.int .i64 ((rd_T42 (rd_L2 t256 x25_1) 0).f1)) := (blk_cell BK262.out 1).trans rfl
                     have hfz66_0 := blk_frozen BK262.out 0
                     have hfz66_1 := blk_frozen BK262.out 1
                     go_wp2_with (first | ((with_reducible refine gate_callee (f := 77) rfl ?_); refine goesL_ (some 49) rfl rfl Tryd.func77 (by kernel_rfl) rfl #[.int .u64 t252, .int .i64 ((rd_T42 (rd_L2 t256 x25_1) 0).f1)] rfl (by (try simp only [List.map_toArray, List.map_cons, List.map_nil]); first | done | rfl | (simp only [List.length_drop, List.length_take]; rfl)) ?_; (with_reducible refine (network_Set_Has.calls t252 ((rd_T42 (rd_L2 t256 x25_1) 0).f1) false _ A46.out).mono ?_); rintro e w' ⟨rfl, ⟨nd, rfl⟩⟩; refine ⟨_, rfl, ?_⟩; (try (rw [drewN_self wc]; generalize hq_ : World.drewN wc _ = wc; have n0_ : Aside0 (Kd.S (Kd.slice 42 k42) 22 wc w.heap.size (fun k_ => some k_ ≠ (u260001 : Value).ownBlock ∧ k_ ≠ gb262) (.slice (some ad260) t256.length co16) t256) := ⟨by rw [← hq_]; exact (zS HO_23)⟩; have n1_ : Aside0 (Kd.R (Kd.int .i64) 3 wc w.heap.size (fun _ => True) (.slice Ao17 t253.length co17) t253) := ⟨by rw [← hq_]; exact (zR HO_260000)⟩; have n2_ : Aside0 (Kd.R k42 42 wc w.heap.size (fun k_ => k_ ≠ gb262) u260001 x260001_1) := ⟨by rw [← hq_]; exact (zR HO_260001)⟩; have n3_ : Aside0 (Kd.S (Kd.slice 42 k42) 22 wc w.heap.size (fun k_ => some k_ ≠ (u260001 : Value).ownBlock ∧ k_ ≠ gb262) (.slice (some ad260) t256.length co16) t256) := ⟨by rw [← hq_]; exact (zS HO_260002)⟩; have n4_ : Aside0 (wc.heap[gb250]? = some (.cells #[.int .i64 a0_0, .slice A0_1 l0_1.length c0_1] 24 (0, 0))) := ⟨by rw [← hq_]; exact (zK BK250)⟩; have n5_ : Aside0 (wc.heap[gb251]? = some (.cells #[.slice none 0 0, .slice none 0 0, .slice none 0 0] 28 (0, 0))) := ⟨by rw [← hq_]; exact (zK BK251)⟩; have n6_ : Aside0 (wc.heap[gb259]? = some (.cells #[.slice Ao17 t253.length co17, u260001, .slice (some ad260) t256.length co16] 28 (0, 0))) := ⟨by rw [← hq_]; exact (zK BK259)⟩; have n7_ : Aside0 (wc.heap[gb262]? = some (.cells #[.int .i64 ((rd_T42 (rd_L2 t256 x25_1) 0).f0), .int .i64 ((rd_T42 (rd_L2 t256 x25_1) 0).f1)] 42 (0, 0))) := ⟨by rw [← hq_]; exact (zK BK262)⟩; have n8_ : Aside0 (Below w.heap.size w wc) := ⟨by rw [← hq_]; exact (zB HB)⟩; have n9_ : Aside0 (Kd.C k42 wc (some ad261) (rd_L2 t256 x25_1).length (rd_L2 t256 x25_1)) := ⟨by rw [← hq_]; exact (zC HR260_0)⟩; clear HO_23 HO_260000 HO_260001 HO_260002 BK250 BK251 BK259 BK262 HB HR260_0 hq_; have HO_23 := n0_; have HO_260000 := n1_; have HO_260001 := n2_; have HO_260002 := n3_; have BK250 := n4_; have BK251 := n5_; have BK259 := n6_; have BK262 := n7_; have HB := n8_; have HR260_0 := n9_; clear n0_ n1_ n2_ n3_ n4_ n5_ n6_ n7_ n8_ n9_)); have p270 : 0 ≤ (0 : Int) := (by omega); have q270 : 0 < (l1.length : Int) := of_decide_eq_true (by first | (with_reducible assumption) | assumption); obtain ⟨ad270, e270, hx270_0⟩ := Kd.at_int HR1.out 0 p270 q270; cases e270; have qi270 : (0 < l1.length) = True := eq_true (by omega); (try rw [show ((0 : Int)).toNat = 0 from rfl] at hx270_0); (try rw [Addr.add_zero'] at hx270_0); replace hx270_0 := (HB.out.cell (World.block_lt_of_cell? w _ hx270_0)).trans hx270_0; replace p270 := eq_true p270; replace q270 := eq_true q270; have hcz67_0 : wc.cell? ⟨gb262, 0, none⟩ = some (.int .i64 ((rd_T42 (rd_L2 t256 x25_1) 0).f0)) := (blk_cell BK262.out 0).trans rfl; have hcz67_1 : wc.cell? ⟨gb262, 1, none⟩ = some (.int .i64 ((rd_T42 (rd_L2 t256 x25_1) 0).f1)) := (blk_cell BK262.out 1).trans rfl; have hfz67_0 := blk_frozen BK262.out 0; have hfz67_1 := blk_frozen BK262.out 1; have hnb68 := NB259_250.out; have hnc68 := NB250_259.out; have hnb69 := NB259_251.out; have hnc69 := NB251_259.out; have hcz70_0 : wc.cell? ⟨gb259, 0, none⟩ = some (.slice Ao17 t253.length co17) := (blk_cell BK259.out 0).trans rfl; have hcz70_1 : wc.cell? ⟨gb259, 1, none⟩ = some (u260001) := (blk_cell BK259.out 1).trans rfl; have hcz70_2 : wc.cell? ⟨gb259, 2, none⟩ = some (.slice (some ad260) t256.length co16) := (blk_cell BK259.out 2).trans rfl; have hfz70_0 := blk_frozen BK259.out 0; have hfz70_1 := blk_frozen BK259.out 1; have hfz70_2 := blk_frozen BK259.out 2) | ((with_reducible refine gate_builtin (b := .append) (xs := #[.tmp 58, .tmp 60]) rfl ?_); at_builtin; refine Kd.R_append k42 (w0 := w) w.heap.size rfl (.tmp 58) (.tmp 60) 22 42 (.agg #[(.int .i64 0), (.int .i64 0)]) 16 rfl Tryd.underlying22 info42 rfl (by decide) (by omega) u260001 x260001_1 (⟨rd l1 0, ((rd_T42 (rd_L2 t256 x25_1) 0).f1)⟩ : S42) [.int .i64 (rd l1 0), .int .i64 ((rd_T42 (rd_L2 t256 x25_1) 0).f1)] (fun k_ => k_ ≠ gb262) (fun _ => False) rfl (by first | (go_simp; done) | (go_simp; rfl)) ?aP (fun _ hk => hk.elim) ?aF ?aO ?aB ?aS ?aL ?_; (case aP => exact k42_mkM _ _ _ (⟨rd l1 0, ((rd_T42 (rd_L2 t256 x25_1) 0).f1)⟩ : S42)); (case aB => exact (zB HB)); (case aF => exact (fun k_ hk => Kd.freshB (g := gb262) (o := .cells #[.int .i64 (rd l1 0), .int .i64 ((rd_T42 (rd_L2 t256 x25_1) 0).f1)] 42 (0, 0)) (by (with_reducible repeat (first | refine blk_drewN ?_ _ | refine blk_drew ?_ | refine blk_alloc ?_ _)); refine blk_put (cs := #[.int .i64 (rd l1 0), .int .i64 ((rd_T42 (rd_L2 t256 x25_1) 0).f1)]) ?_ 1 _ rfl; (with_reducible repeat (first | refine blk_drewN ?_ _ | refine blk_drew ?_ | refine blk_alloc ?_ _)); refine blk_put (cs := #[.int .i64 ((rd_T42 (rd_L2 t256 x25_1) 0).f0), .int .i64 ((rd_T42 (rd_L2 t256 x25_1) 0).f1)]) ?_ 0 _ rfl; (with_reducible repeat (first | refine blk_drewN ?_ _ | refine blk_drew ?_ | refine blk_alloc ?_ _)); exact BK262.out) k_ hk)); (case aO => exact (by (with_reducible repeat (first | apply Kd.R_alloc | apply Kd.R_drewN | apply Kd.R_drew)); exact Kd.R_mono (Kd.R_far (p := ⟨gb262, 1, none⟩) (Kd.R_far (p := ⟨gb262, 0, none⟩) (Kd.R_mono HO_260001.out (fun k_ hk => (⟨hk, hk⟩ : _ ∧ k_ ≠ gb262))) (fun _ hk => hk.2) (.int .i64 (rd l1 0))) (fun _ hk => hk.2) (.int .i64 ((rd_T42 (rd_L2 t256 x25_1) 0).f1))) (fun _ hk => hk.1))); (case aS => exact (below_size (zB HB))); (case aL => have := LMc62.out; omega); intro v272 w71 ho hb hg hat; rw [← Ny271.out] at ho; have n0_ := Aside0.mk (Kd.S_after (ok := (fun k_ => k_ ≠ gb262)) (by (with_reducible repeat (first | apply Kd.S_alloc | apply Kd.S_drewN | apply Kd.S_drew)); exact Kd.S_mono (Kd.S_far (p := ⟨gb262, 1, none⟩) (Kd.S_far (p := ⟨gb262, 0, none⟩) (Kd.S_mono HO_23.out (fun k_ hk => (⟨hk, hk.2⟩ : _ ∧ k_ ≠ gb262))) (fun _ hk => hk.2) (.int .i64 (rd l1 0))) (fun _ hk => hk.2) (.int .i64 ((rd_T42 (rd_L2 t256 x25_1) 0).f1))) (fun _ hk => ⟨hk.1.2, hk.1.1⟩)) hg hat); have n1_ := Aside0.mk (Kd.R_over' (by (with_reducible repeat (first | apply Kd.R_alloc | apply Kd.R_drewN | apply Kd.R_drew)); exact (Kd.R_mono (Kd.R_far (p := ⟨gb262, 1, none⟩) (Kd.R_far (p := ⟨gb262, 0, none⟩) (Kd.R_types HO_260000.out BK262.out (by decide)) (fun _ hk => hk.2) (.int .i64 (rd l1 0))) (fun _ hk => hk.2) (.int .i64 ((rd_T42 (rd_L2 t256 x25_1) 0).f1))) (fun _ h_ => h_.1))) (Kd.R_typed (by (with_reducible repeat (first | apply Kd.R_alloc | apply Kd.R_drewN | apply Kd.R_drew)); exact (Kd.R_mono (Kd.R_far (p := ⟨gb262, 1, none⟩) (Kd.R_far (p := ⟨gb262, 0, none⟩) (Kd.R_mono HO_260001.out (fun k_ hk => (⟨hk, hk⟩ : _ ∧ k_ ≠ gb262))) (fun _ hk => hk.2) (.int .i64 (rd l1 0))) (fun _ hk => hk.2) (.int .i64 ((rd_T42 (rd_L2 t256 x25_1) 0).f1))) (fun _ h_ => h_.1)))) (by decide) hg); have n2_ := Aside0.mk (Kd.S_after (ok := (fun k_ => k_ ≠ gb262)) (by (with_reducible repeat (first | apply Kd.S_alloc | apply Kd.S_drewN | apply Kd.S_drew)); exact Kd.S_mono (Kd.S_far (p := ⟨gb262, 1, none⟩) (Kd.S_far (p := ⟨gb262, 0, none⟩) (Kd.S_mono HO_260002.out (fun k_ hk => (⟨hk, hk.2⟩ : _ ∧ k_ ≠ gb262))) (fun _ hk => hk.2) (.int .i64 (rd l1 0))) (fun _ hk => hk.2) (.int .i64 ((rd_T42 (rd_L2 t256 x25_1) 0).f1))) (fun _ hk => ⟨hk.1.2, hk.1.1⟩)) hg hat); have n3_ := Aside0.mk (blk_grown (g := gb250) (o := .cells #[.int .i64 a0_0, .slice A0_1 l0_1.length c0_1] 24 (0, 0)) (by (with_reducible repeat (first | refine blk_drewN ?_ _ | refine blk_drew ?_ | refine blk_alloc ?_ _)); refine blk_far ?_ NB250_262.out _; (with_reducible repeat (first | refine blk_drewN ?_ _ | refine blk_drew ?_ | refine blk_alloc ?_ _)); refine blk_far ?_ NB250_262.out _; (with_reducible repeat (first | refine blk_drewN ?_ _ | refine blk_drew ?_ | refine blk_alloc ?_ _)); exact BK250.out) hg (Kd.R_ne HO_260001.out BK250.out (by decide))); have n4_ := Aside0.mk (blk_grown (g := gb251) (o := .cells #[.slice none 0 0, .slice none 0 0, .slice none 0 0] 28 (0, 0)) (by (with_reducible repeat (first | refine blk_drewN ?_ _ | refine blk_drew ?_ | refine blk_alloc ?_ _)); refine blk_far ?_ NB251_262.out _; (with_reducible repeat (first | refine blk_drewN ?_ _ | refine blk_drew ?_ | refine blk_alloc ?_ _)); refine blk_far ?_ NB251_262.out _; (with_reducible repeat (first | refine blk_drewN ?_ _ | refine blk_drew ?_ | refine blk_alloc ?_ _)); exact BK251.out) hg (Kd.R_ne HO_260001.out BK251.out (by decide))); have n5_ := Aside0.mk (blk_grown (g := gb259) (o := .cells #[.slice Ao17 t253.length co17, u260001, .slice (some ad260) t256.length co16] 28 (0, 0)) (by (with_reducible repeat (first | refine blk_drewN ?_ _ | refine blk_drew ?_ | refine blk_alloc ?_ _)); refine blk_far ?_ NB259_262.out _; (with_reducible repeat (first | refine blk_drewN ?_ _ | refine blk_drew ?_ | refine blk_alloc ?_ _)); refine blk_far ?_ NB259_262.out _; (with_reducible repeat (first | refine blk_drewN ?_ _ | refine blk_drew ?_ | refine blk_alloc ?_ _)); exact BK259.out) hg (Kd.R_ne HO_260001.out BK259.out (by decide))); have n6_ := Aside0.mk (blk_grown (g := gb262) (o := .cells #[.int .i64 (rd l1 0), .int .i64 ((rd_T42 (rd_L2 t256 x25_1) 0).f1)] 42 (0, 0)) (by (with_reducible repeat (first | refine blk_drewN ?_ _ | refine blk_drew ?_ | refine blk_alloc ?_ _)); refine blk_put (cs := #[.int .i64 (rd l1 0), .int .i64 ((rd_T42 (rd_L2 t256 x25_1) 0).f1)]) ?_ 1 _ rfl; (with_reducible repeat (first | refine blk_drewN ?_ _ | refine blk_drew ?_ | refine blk_alloc ?_ _)); refine blk_put (cs := #[.int .i64 ((rd_T42 (rd_L2 t256 x25_1) 0).f0), .int .i64 ((rd_T42 (rd_L2 t256 x25_1) 0).f1)]) ?_ 0 _ rfl; (with_reducible repeat (first | refine blk_drewN ?_ _ | refine blk_drew ?_ | refine blk_alloc ?_ _)); exact BK262.out) hg (Kd.R_away HO_260001.out (fun _ hk => hk))); have n7_ := Aside0.mk (hb); have n8_ := Aside0.mk (ho); clear HO_23; clear HO_260000; clear HO_260002; clear BK250; clear BK251; clear BK259; clear BK262; clear HB; clear HO_260001; have HO_23 := n0_; have HO_260000 := n1_; have HO_260002 := n2_; have BK250 := n3_; have BK251 := n4_; have BK259 := n5_; have BK262 := n6_; have HB := n7_; have HO273 := n8_; clear n0_ n1_ n2_ n3_ n4_ n5_ n6_ n7_ n8_; clear ho hb hg hat; obtain ⟨Ao72, co72, eo72⟩ := Kd.R_slice HO273.out; subst eo72; have hcz73_0 : w71.cell? ⟨gb259, 0, none⟩ = some (.slice Ao17 t253.length co17) := (blk_cell BK259.out 0).trans rfl; have hcz73_1 : w71.cell? ⟨gb259, 1, none⟩ = some (u260001) := (blk_cell BK259.out 1).trans rfl; have hcz73_2 : w71.cell? ⟨gb259, 2, none⟩ = some (.slice (some ad260) t256.length co16) := (blk_cell BK259.out 2).trans rfl; have hfz73_0 := blk_frozen BK259.out 0; have hfz73_1 := blk_frozen BK259.out 1; have hfz73_2 := blk_frozen BK259.out 2))
                     go_roundg kj27
                     case measure => have := HK1.out; have := HJ27.out; omega
                     case rel => exact ⟨(wrap64 (x25_1 + 1)), (y271), (.slice Ao72 y271.length co72), (by first | rfl | (simp; done) | (simp [*]; done)), H', ⟨by have := HK1.out; have := HJ27.out; omega⟩, ⟨by (with_reducible repeat (first | apply Kd.S_alloc | apply Kd.S_drewN | apply Kd.S_drew)); exact Kd.S_mono (Kd.S_far (p := ⟨gb259, 1, none⟩) (Kd.S_types HO_23.out BK259.out (by decide)) (fun _ hk => hk.2) (.slice Ao72 y271.length co72)) (fun _ hk => hk.1.2)⟩, ⟨by (with_reducible repeat (first | apply Kd.R_alloc | apply Kd.R_drewN | apply Kd.R_drew)); exact Kd.R_mono (Kd.R_far (p := ⟨gb259, 1, none⟩) (Kd.R_types HO_260000.out BK259.out (by decide)) (fun _ hk => hk.2) (.slice Ao72 y271.length co72)) (fun _ hk => trivial)⟩, ⟨by (with_reducible repeat (first | apply Kd.R_alloc | apply Kd.R_drewN | apply Kd.R_drew)); exact Kd.R_mono (Kd.R_far (p := ⟨gb259, 1, none⟩) (Kd.R_types HO273.out BK259.out (by decide)) (fun _ hk => hk.2) (.slice Ao72 y271.length co72)) (fun _ hk => trivial)⟩, ⟨by (with_reducible repeat (first | apply Kd.S_alloc | apply Kd.S_drewN | apply Kd.S_drew)); exact Kd.S_mono (Kd.S_far (p := ⟨gb259, 1, none⟩) (Kd.S_types HO_260002.out BK259.out (by decide)) (fun _ hk => hk.2) (.slice Ao72 y271.length co72)) (fun _ hk => hk.1.2)⟩, ⟨by (with_reducible repeat (first | refine blk_drewN ?_ _ | refine blk_drew ?_ | refine blk_alloc ?_ _)); refine blk_far ?_ NB250_259.out _; (with_reducible repeat (first | refine blk_drewN ?_ _ | refine blk_drew ?_ | refine blk_alloc ?_ _)); exact BK250.out⟩, ⟨by (with_reducible repeat (first | refine blk_drewN ?_ _ | refine blk_drew ?_ | refine blk_alloc ?_ _)); refine blk_far ?_ NB251_259.out _; (with_reducible repeat (first | refine blk_drewN ?_ _ | refine blk_drew ?_ | refine blk_alloc ?_ _)); exact BK251.out⟩, ⟨by (with_reducible repeat (first | refine blk_drewN ?_ _ | refine blk_drew ?_ | refine blk_alloc ?_ _)); refine blk_put (cs := #[.slice Ao17 t253.length co17, u260001, .slice (some ad260) t256.length co16]) ?_ 1 _ rfl; (with_reducible repeat (first | refine blk_drewN ?_ _ | refine blk_drew ?_ | refine blk_alloc ?_ _)); exact BK259.out⟩, ⟨zB HB⟩⟩
                   · rw [if_neg c62] at H
                     exact absurd H (by simp)
                 · rw [if_neg c61] at H
                   exact absurd H (by simp)
             · replace c45 := Bool.eq_false_iff.mpr c45
               subst c45
               have H1 : (if x260001_1.length < 8796093022208 then (enforce_strict.l0 kj27 l1 t252 t256 (t256.length : Int) (wrap64 (x25_1 + 1)) t253 (x260001_1 ++ [(⟨((rd_T42 (rd_L2 t256 x25_1) 0).f0), ((rd_T42 (rd_L2 t256 x25_1) 0).f1)⟩ : S42)]) t256) else (none)) = some (r1, r2, r3) := by rw [if_neg (show ¬ (false = true) by decide)] at H; exact H
               clear H
               have H := H1
               clear H1
               by_cases c74 : x260001_1.length < 8796093022208
               · rw [if_pos c74] at H
                 have LMc74 := Aside0.mk c74
                 clear c74
                 obtain ⟨y274, hy274⟩ : ∃ y_ : List (S42), y_ = (x260001_1 ++ [(⟨((rd_T42 (rd_L2 t256 x25_1) 0).f0), ((rd_T42 (rd_L2 t256 x25_1) 0).f1)⟩ : S42)]) := ⟨_, rfl⟩
                 replace H : (enforce_strict.l0 kj27 l1 t252 t256 (t256.length : Int) (wrap64 (x25_1 + 1)) t253 y274 t256) = some (r1, r2, r3) := by first | (rw [hy274]; with_reducible exact H) | (have H2_ := (Option.bind_some _ _).symm.trans H; rw [hy274]; with_reducible exact H2_) | (have H2_ := (Option.bind_some _ _).symm.trans H; with_reducible exact H2_) | with_reducible exact H | (rw [hy274]; exact H) | exact H
                 have Ny274 := Aside0.mk hy274
                 clear hy274
                 have H' := Aside0.mk H
                 clear H
                 have hnb75 := NB259_250.out
                 have hnc75 := NB250_259.out
                 have hnb76 := NB259_251.out
                 have hnc76 := NB251_259.out
                 have hnb77 := NB259_262.out
                 have hnc77 := NB262_259.out
                 have hcz78_0 : wc.cell? ⟨gb259, 0, none⟩ = some (.slice Ao17 t253.length co17) := (blk_cell BK259.out 0).trans rfl
                 have hcz78_1 : wc.cell? ⟨gb259, 1, none⟩ = some (u260001) := (blk_cell BK259.out 1).trans rfl
                 have hcz78_2 : wc.cell? ⟨gb259, 2, none⟩ = some (.slice (some ad260) t256.length co16) := (blk_cell BK259.out 2).trans rfl
                 have hfz78_0 := blk_frozen BK259.out 0
                 have hfz78_1 := blk_frozen BK259.out 1
                 have hfz78_2 := blk_frozen BK259.out 2
                 have hnb79 := NB262_250.out
                 have hnc79 := NB250_262.out
                 have hnb80 := NB262_251.out
                 have hnc80 := NB251_262.out
                 have hcz81_0 : wc.cell? ⟨gb262, 0, none⟩ = some (.int .i64 ((rd_T42 (rd_L2 t256 x25_1) 0).f0)) := (blk_cell BK262.out 0).trans rfl
                 have hcz81_1 : wc.cell? ⟨gb262, 1, none⟩ = some (.int .i64 ((rd_T42 (rd_L2 t256 x25_1) 0).f1)) := (blk_cell BK262.out 1).trans rfl
                 have hfz81_0 := blk_frozen BK262.out 0
                 have hfz81_1 := blk_frozen BK262.out 1
                 go_wp2_with (first | ((with_reducible refine gate_builtin (b := .append) (xs := #[.tmp 58, .tmp 60]) rfl ?_); at_builtin; refine Kd.R_append k42 (w0 := w) w.heap.size rfl (.tmp 58) (.tmp 60) 22 42 (.agg #[(.int .i64 0), (.int .i64 0)]) 16 rfl Tryd.underlying22 info42 rfl (by decide) (by omega) u260001 x260001_1 (⟨((rd_T42 (rd_L2 t256 x25_1) 0).f0), ((rd_T42 (rd_L2 t256 x25_1) 0).f1)⟩ : S42) [.int .i64 ((rd_T42 (rd_L2 t256 x25_1) 0).f0), .int .i64 ((rd_T42 (rd_L2 t256 x25_1) 0).f1)] (fun k_ => k_ ≠ gb262) (fun _ => False) rfl rfl ?aP (fun _ hk => hk.elim) ?aF ?aO ?aB ?aS ?aL ?_; (case aP => exact k42_mkM _ _ _ (⟨((rd_T42 (rd_L2 t256 x25_1) 0).f0), ((rd_T42 (rd_L2 t256 x25_1) 0).f1)⟩ : S42)); (case aB => exact (zB HB)); (case aF => exact (fun k_ hk => Kd.freshB (g := gb262) (o := .cells #[.int .i64 ((rd_T42 (rd_L2 t256 x25_1) 0).f0), .int .i64 ((rd_T42 (rd_L2 t256 x25_1) 0).f1)] 42 (0, 0)) (zK BK262) k_ hk)); (case aO => exact (zR HO_260001)); (case aS => exact (below_size (zB HB))); (case aL => have := LMc74.out; omega); intro v275 w82 ho hb hg hat; rw [← Ny274.out] at ho; have n0_ := Aside0.mk (Kd.S_after (ok := (fun k_ => k_ ≠ gb262)) (by (with_reducible repeat (first | apply Kd.S_alloc | apply Kd.S_drewN | apply Kd.S_drew)); exact Kd.S_mono HO_23.out (fun _ hk => ⟨hk.2, hk.1⟩)) hg hat); have n1_ := Aside0.mk (Kd.R_over' (zR HO_260000) (Kd.R_typed (zR HO_260001)) (by decide) hg); have n2_ := Aside0.mk (Kd.S_after (ok := (fun k_ => k_ ≠ gb262)) (by (with_reducible repeat (first | apply Kd.S_alloc | apply Kd.S_drewN | apply Kd.S_drew)); exact Kd.S_mono HO_260002.out (fun _ hk => ⟨hk.2, hk.1⟩)) hg hat); have n3_ := Aside0.mk (blk_grown (g := gb250) (o := .cells #[.int .i64 a0_0, .slice A0_1 l0_1.length c0_1] 24 (0, 0)) (zK BK250) hg (Kd.R_ne HO_260001.out BK250.out (by decide))); have n4_ := Aside0.mk (blk_grown (g := gb251) (o := .cells #[.slice none 0 0, .slice none 0 0, .slice none 0 0] 28 (0, 0)) (zK BK251) hg (Kd.R_ne HO_260001.out BK251.out (by decide))); have n5_ := Aside0.mk (blk_grown (g := gb259) (o := .cells #[.slice Ao17 t253.length co17, u260001, .slice (some ad260) t256.length co16] 28 (0, 0)) (zK BK259) hg (Kd.R_ne HO_260001.out BK259.out (by decide))); have n6_ := Aside0.mk (blk_grown (g := gb262) (o := .cells #[.int .i64 ((rd_T42 (rd_L2 t256 x25_1) 0).f0), .int .i64 ((rd_T42 (rd_L2 t256 x25_1) 0).f1)] 42 (0, 0)) (zK BK262) hg (Kd.R_away HO_260001.out (fun _ hk => hk))); have n7_ := Aside0.mk (hb); have n8_ := Aside0.mk (ho); clear HO_23; clear HO_260000; clear HO_260002; clear BK250; clear BK251; clear BK259; clear BK262; clear HB; clear HO_260001; have HO_23 := n0_; have HO_260000 := n1_; have HO_260002 := n2_; have BK250 := n3_; have BK251 := n4_; have BK259 := n5_; have BK262 := n6_; have HB := n7_; have HO276 := n8_; clear n0_ n1_ n2_ n3_ n4_ n5_ n6_ n7_ n8_; clear ho hb hg hat; obtain ⟨Ao83, co83, eo83⟩ := Kd.R_slice HO276.out; subst eo83; have hcz84_0 : w82.cell? ⟨gb259, 0, none⟩ = some (.slice Ao17 t253.length co17) := (blk_cell BK259.out 0).trans rfl; have hcz84_1 : w82.cell? ⟨gb259, 1, none⟩ = some (u260001) := (blk_cell BK259.out 1).trans rfl; have hcz84_2 : w82.cell? ⟨gb259, 2, none⟩ = some (.slice (some ad260) t256.length co16) := (blk_cell BK259.out 2).trans rfl; have hfz84_0 := blk_frozen BK259.out 0; have hfz84_1 := blk_frozen BK259.out 1; have hfz84_2 := blk_frozen BK259.out 2))
                 go_roundg kj27
                 case measure => have := HK1.out; have := HJ27.out; omega
                 case rel => exact ⟨(wrap64 (x25_1 + 1)), (y274), (.slice Ao83 y274.length co83), (by first | rfl | (simp; done) | (simp [*]; done)), H', ⟨by have := HK1.out; have := HJ27.out; omega⟩, ⟨by (with_reducible repeat (first | apply Kd.S_alloc | apply Kd.S_drewN | apply Kd.S_drew)); exact Kd.S_mono (Kd.S_far (p := ⟨gb259, 1, none⟩) (Kd.S_types HO_23.out BK259.out (by decide)) (fun _ hk => hk.2) (.slice Ao83 y274.length co83)) (fun _ hk => hk.1.2)⟩, ⟨by (with_reducible repeat (first | apply Kd.R_alloc | apply Kd.R_drewN | apply Kd.R_drew)); exact Kd.R_mono (Kd.R_far (p := ⟨gb259, 1, none⟩) (Kd.R_types HO_260000.out BK259.out (by decide)) (fun _ hk => hk.2) (.slice Ao83 y274.length co83)) (fun _ hk => trivial)⟩, ⟨by (with_reducible repeat (first | apply Kd.R_alloc | apply Kd.R_drewN | apply Kd.R_drew)); exact Kd.R_mono (Kd.R_far (p := ⟨gb259, 1, none⟩) (Kd.R_types HO276.out BK259.out (by decide)) (fun _ hk => hk.2) (.slice Ao83 y274.length co83)) (fun _ hk => trivial)⟩, ⟨by (with_reducible repeat (first | apply Kd.S_alloc | apply Kd.S_drewN | apply Kd.S_drew)); exact Kd.S_mono (Kd.S_far (p := ⟨gb259, 1, none⟩) (Kd.S_types HO_260002.out BK259.out (by decide)) (fun _ hk => hk.2) (.slice Ao83 y274.length co83)) (fun _ hk => hk.1.2)⟩, ⟨by (with_reducible repeat (first | refine blk_drewN ?_ _ | refine blk_drew ?_ | refine blk_alloc ?_ _)); refine blk_far ?_ NB250_259.out _; (with_reducible repeat (first | refine blk_drewN ?_ _ | refine blk_drew ?_ | refine blk_alloc ?_ _)); exact BK250.out⟩, ⟨by (with_reducible repeat (first | refine blk_drewN ?_ _ | refine blk_drew ?_ | refine blk_alloc ?_ _)); refine blk_far ?_ NB251_259.out _; (with_reducible repeat (first | refine blk_drewN ?_ _ | refine blk_drew ?_ | refine blk_alloc ?_ _)); exact BK251.out⟩, ⟨by (with_reducible repeat (first | refine blk_drewN ?_ _ | refine blk_drew ?_ | refine blk_alloc ?_ _)); refine blk_put (cs := #[.slice Ao17 t253.length co17, u260001, .slice (some ad260) t256.length co16]) ?_ 1 _ rfl; (with_reducible repeat (first | refine blk_drewN ?_ _ | refine blk_drew ?_ | refine blk_alloc ?_ _)); exact BK259.out⟩, ⟨zB HB⟩⟩
               · rw [if_neg c74] at H
                 exact absurd H (by simp)
         · rw [if_neg c27] at H
           exact absurd H (by simp)
       · rw [if_neg c26] at H
         exact absurd H (by simp)
     · rw [if_neg c25] at H
       exact absurd H (by simp)
   · rw [if_neg c24] at H
     have c24b0 : decide (x25_1 < (t256.length : Int)) = false := decide_eq_false c24
     clear c24
     simp only [Option.some.injEq, Prod.mk.injEq] at H
     obtain ⟨rfl, rfl, rfl⟩ := H
     have hnb85 := NB259_250.out
     have hnc85 := NB250_259.out
     have hnb86 := NB259_251.out
     have hnc86 := NB251_259.out
     have hcz87_0 : wr.cell? ⟨gb259, 0, none⟩ = some (.slice Ao17 t253.length co17) := (blk_cell BK259.out 0).trans rfl
     have hcz87_1 : wr.cell? ⟨gb259, 1, none⟩ = some (u260001) := (blk_cell BK259.out 1).trans rfl
     have hcz87_2 : wr.cell? ⟨gb259, 2, none⟩ = some (.slice Ao16 t256.length co16) := (blk_cell BK259.out 2).trans rfl
     have hfz87_0 := blk_frozen BK259.out 0
     have hfz87_1 := blk_frozen BK259.out 1
     have hfz87_2 := blk_frozen BK259.out 2
     have hnb88 := NB251_250.out
     have hnc88 := NB250_251.out
     have hcz89_0 : wr.cell? ⟨gb251, 0, none⟩ = some (.slice none 0 0) := (blk_cell BK251.out 0).trans rfl
     have hcz89_1 : wr.cell? ⟨gb251, 1, none⟩ = some (.slice none 0 0) := (blk_cell BK251.out 1).trans rfl
     have hcz89_2 : wr.cell? ⟨gb251, 2, none⟩ = some (.slice none 0 0) := (blk_cell BK251.out 2).trans rfl
     have hfz89_0 := blk_frozen BK251.out 0
     have hfz89_1 := blk_frozen BK251.out 1
     have hfz89_2 := blk_frozen BK251.out 2
     obtain ⟨Ao90, co90, eo90⟩ := Kd.R_slice HO_260001.out
     subst eo90
     go_wp2
     refine bodyPost_ret (results_cell_row rfl _ _ gb251 28 #[.slice Ao17 t253.length co17, .slice Ao90 x260001_1.length co90, .slice Ao16 t256.length co16] (0, 0) _ rfl (by (with_reducible repeat (first | refine blk_drewN ?_ _ | refine blk_drew ?_ | refine blk_alloc ?_ _)); refine blk_put (cs := #[.slice Ao17 t253.length co17, .slice Ao90 x260001_1.length co90, .slice none 0 0]) ?_ 2 _ rfl; (with_reducible repeat (first | refine blk_drewN ?_ _ | refine blk_drew ?_ | refine blk_alloc ?_ _)); refine blk_put (cs := #[.slice Ao17 t253.length co17, .slice none 0 0, .slice none 0 0]) ?_ 1 _ rfl; (with_reducible repeat (first | refine blk_drewN ?_ _ | refine blk_drew ?_ | refine blk_alloc ?_ _)); refine blk_put (cs := #[.slice none 0 0, .slice none 0 0, .slice none 0 0]) ?_ 0 _ rfl; (with_reducible repeat (first | refine blk_drewN ?_ _ | refine blk_drew ?_ | refine blk_alloc ?_ _)); exact BK251.out) Tryd.underlying28 rfl (by kernel_rfl)) rfl ?_
     exact ⟨_, _, _, by first | rfl | (simp [errW_none, errW_some] <;> rfl) | (simp [*, errW_none, errW_some] <;> rfl), by (with_reducible repeat (first | apply Kd.R_alloc | apply Kd.R_drewN | apply Kd.R_drew)); exact Kd.R_mono (Kd.R_far (p := ⟨gb251, 2, none⟩) (Kd.R_far (p := ⟨gb251, 1, none⟩) (Kd.R_far (p := ⟨gb251, 0, none⟩) (Kd.R_types HO_260000.out BK251.out (by decide)) (fun _ hk => hk.2) (.slice Ao17 t253.length co17)) (fun _ hk => hk.2) (.slice Ao90 x260001_1.length co90)) (fun _ hk => hk.2) (.slice Ao16 t256.length co16)) (fun _ hk => trivial), by (with_reducible repeat (first | apply Kd.R_alloc | apply Kd.R_drewN | apply Kd.R_drew)); exact Kd.R_mono (Kd.R_far (p := ⟨gb251, 2, none⟩) (Kd.R_far (p := ⟨gb251, 1, none⟩) (Kd.R_far (p := ⟨gb251, 0, none⟩) (Kd.R_types HO_260001.out BK251.out (by decide)) (fun _ hk => hk.2) (.slice Ao17 t253.length co17)) (fun _ hk => hk.2) (.slice Ao90 x260001_1.length co90)) (fun _ hk => hk.2) (.slice Ao16 t256.length co16)) (fun _ hk => trivial), by (with_reducible repeat (first | apply Kd.S_alloc | apply Kd.S_drewN | apply Kd.S_drew)); exact Kd.S_mono (Kd.S_far (p := ⟨gb251, 2, none⟩) (Kd.S_far (p := ⟨gb251, 1, none⟩) (Kd.S_far (p := ⟨gb251, 0, none⟩) (Kd.S_types HO_260002.out BK251.out (by decide)) (fun _ hk => hk.2) (.slice Ao17 t253.length co17)) (fun _ hk => hk.2) (.slice Ao90 x260001_1.length co90)) (fun _ hk => hk.2) (.slice Ao16 t256.length co16)) (fun _ hk => hk.1), zB HB⟩
end Go.Proofs.YtjmdlmogdbhdhaaDoor.P
namespace Go.Proofs.YtjmdlmogdbhdhaaDoor.P
open Go.RowKit Go.Proofs.YtjmdlmogdbhdhaaDoorW.PrintWords Go.Proofs.YtjmdlmogdbhdhaaDoorW.PrintLast Go.Proofs.YtjmdlmogdbhdhaaDoorW.PrintMore
attribute [local go_sem] max2_int min2_int max_two min_two max_three min_three max_four min_four   -- for this text's walks alone
set_option linter.unusedVariables false
set_option linter.unusedSimpArgs false
/-! ### enforce_Strict: function 24 -/
def enforce_Strict.f (k : Nat) (a0_0 : Int) (l0_1 : List (S42)) (l1 : List Int) (a2 : Int) : Option (List Int × (List (S42)) × (List (List (S42))) × Int) := (enforce_arguments.f k a0_0 l0_1 l1 a2).bind fun t279 => (if t279 = 0 then ((enforce_hopeless.f a0_0 l0_1 l1 a2).bind fun t280 => (if t280 = true then (some (([] : List Int), ([] : List (S42)), ([] : List (List (S42))), 9)) else ((enforce_strict.f k a0_0 l0_1 l1 a2).bind fun bt281 => (some (bt281.1, bt281.2.1, bt281.2.2, 0))))) else (some (([] : List Int), ([] : List (S42)), ([] : List (List (S42))), t279)))
theorem enforce_Strict.mono : ∀ a0 a1 a2 a3 k, LeO (enforce_Strict.f k a0 a1 a2 a3) (enforce_Strict.f (k + 1) a0 a1 a2 a3) := by
 intro a0 a1 a2 a3 k
 unfold enforce_Strict.f
 repeat' first
  | (with_reducible exact enforce_arguments.mono _ _ _ _ _)
  | (with_reducible exact enforce_strict.mono _ _ _ _ _)
  | (with_reducible exact LeO.refl _)
  | (with_reducible exact LeO.none _)
  | (with_reducible refine LeO.ite ?_ ?_)
  | (with_reducible refine LeO.bind ?_ (fun _ => ?_))
  | exact enforce_arguments.mono _ _ _ _ _
  | exact enforce_strict.mono _ _ _ _ _
  | exact LeO.none _
  | refine LeO.ite ?_ ?_
  | refine LeO.bind ?_ (fun _ => ?_)
set_option maxHeartbeats 8000000 in
set_option maxRecDepth 100000 in
theorem enforce_Strict.calls (k : Nat) (a0_0 : Int) (A0_1 : Option Addr) (c0_1 : Nat) (l0_1 : List (S42)) (A1 : Option Addr) (c1 : Nat) (l1 : List Int) (a2 : Int) (r1 : List Int) (r2 : List (S42)) (r3 : List (List (S42))) (r4 : Int) (w : World) (hr0_1 : Kd.C k42 w A0_1 l0_1.length l0_1) (hc0_1 : l0_1.length ≤ c0_1) (hr1 : Kd.C (Kd.int .i64) w A1 l1.length l1) (hc1 : l1.length ≤ c1) (hT : TabT w) (h : enforce_Strict.f k a0_0 l0_1 l1 a2 = some (r1, r2, r3, r4)) :
 Calls Tryd.prog 24 #[.agg #[.int .i64 a0_0, .slice A0_1 l0_1.length c0_1], .slice A1 l1.length c1, .int .i64 a2] w fun e w' => ∃ v0_ v1_ v2_ : Value, e = .returned (.tuple #[.agg #[v0_, v1_, v2_], .int .i64 r4]) ∧ Kd.R (Kd.int .i64) 3 w' w.heap.size (fun _ => True) v0_ r1 ∧ Kd.R k42 42 w' w.heap.size (fun _ => True) v1_ r2 ∧ Kd.S (Kd.slice 42 k42) 22 w' w.heap.size (fun k_ => some k_ ≠ (v1_ : Value).ownBlock) v2_ r3 ∧ Below w.heap.size w w' := by
 have hu24 := Tryd.underlying24
 have hu28 := Tryd.underlying28
 have HR0_1 := Aside0.mk hr0_1
 have HC0_1 := Aside0.mk hc0_1
 clear hr0_1 hc0_1
 have HR1 := Aside0.mk hr1
 have HC1 := Aside0.mk hc1
 clear hr1 hc1
 have HTab := Aside0.mk hT
 clear hT
 have HB := Aside0.mk (Below.refl w.heap.size w)
 have H : ((enforce_arguments.f k a0_0 l0_1 l1 a2).bind fun t279 => (if t279 = 0 then ((enforce_hopeless.f a0_0 l0_1 l1 a2).bind fun t280 => (if t280 = true then (some (([] : List Int), ([] : List (S42)), ([] : List (List (S42))), 9)) else ((enforce_strict.f k a0_0 l0_1 l1 a2).bind fun bt281 => (some (bt281.1, bt281.2.1, bt281.2.2, 0))))) else (some (([] : List Int), ([] : List (S42)), ([] : List (List (S42))), t279)))) = some (r1, r2, r3, r4) := h
 clear h
 replace H := Option.bind_eq_some_iff.mp H
 obtain ⟨t279, A40, H⟩ := H
 replace H : (if t279 = 0 then ((enforce_hopeless.f a0_0 l0_1 l1 a2).bind fun t280 => (if t280 = true then (some (([] : List Int), ([] : List (S42)), ([] : List (List (S42))), 9)) else ((enforce_strict.f k a0_0 l0_1 l1 a2).bind fun bt281 => (some (bt281.1, bt281.2.1, bt281.2.2, 0))))) else (some (([] : List Int), ([] : List (S42)), ([] : List (List (S42))), t279))) = some (r1, r2, r3, r4) := H
 have A4 := Aside0.mk A40
 clear A40
 by_cases c5 : t279 = 0
 · rw [if_pos c5] at H
   have c5b0 : (t279 == 0) = true := beq_iff_eq.mpr c5
   have c5b1 : (t279 != 0) = false := bne_eq_false_iff_eq.mpr c5
   clear c5
   replace H := Option.bind_eq_some_iff.mp H
   obtain ⟨t280, A60, H⟩ := H
   replace H : (if t280 = true then (some (([] : List Int), ([] : List (S42)), ([] : List (List (S42))), 9)) else ((enforce_strict.f k a0_0 l0_1 l1 a2).bind fun bt281 => (some (bt281.1, bt281.2.1, bt281.2.2, 0)))) = some (r1, r2, r3, r4) := H
   have A6 := Aside0.mk A60
   clear A60
   by_cases c7 : t280 = true
   · subst c7
     have H1 : (some (([] : List Int), ([] : List (S42)), ([] : List (List (S42))), 9)) = some (r1, r2, r3, r4) := by rw [if_pos rfl] at H; exact H
     clear H
     have H := H1
     clear H1
     simp only [Option.some.injEq, Prod.mk.injEq] at H
     obtain ⟨rfl, rfl, rfl, rfl⟩ := H
     go_enter Tryd.func24, Tryd.ntmps24
     go_wp2_with (first | ((with_reducible refine gate_dst (N := 3) rfl ?_); refine box_event ?hg (N := 3) ?hd (cs := #[.int .i64 a0_0, .slice A0_1 l0_1.length c0_1]) (t := 24) ?hr ?_; (case hd => rfl); (case hg => rfl); (case hr => first | (go_simp; done) | (go_simp; rfl)); intro gb277 hg w8 hbox hb; have n0_ := Aside0.mk (below_step (zB HB) hb); have n1_ := Aside0.mk (hbox); have n2_ := Aside0.mk ((by rw [hg]; exact (below_size (zB HB)) : w.heap.size ≤ gb277)); have n3_ := Aside0.mk ((by rw [hg]; exact (below_size (zB HB)) : w.heap.size ≤ gb277)); clear HB; have HB := n0_; have BK277 := n1_; have GW277 := n2_; have GE277 := n3_; clear n0_ n1_ n2_ n3_; clear hb hbox hg) | ((with_reducible refine gate_dst (N := 6) rfl ?_); refine box_event ?hg (N := 6) ?hd (cs := #[.slice none 0 0, .slice none 0 0, .slice none 0 0]) (t := 28) ?hr ?_; (case hd => rfl); (case hg => rfl); (case hr => first | (go_simp; done) | (go_simp; rfl)); intro gb278 hg w9 hbox hb; have n0_ := Aside0.mk (blk_below (g := gb277) (o := .cells #[.int .i64 a0_0, .slice A0_1 l0_1.length c0_1] 24 (0, 0)) (zK BK277) hb); have n1_ := Aside0.mk (below_step (zB HB) hb); have n2_ := Aside0.mk (hbox); have n3_ := Aside0.mk ((by rw [hg]; exact (below_size (zB HB)) : w.heap.size ≤ gb278)); have n4_ := Aside0.mk ((by rw [hg]; exact (below_size (zB HB)) : w.heap.size ≤ gb278)); have n5_ := Aside0.mk ((by rw [hg]; exact Nat.ne_of_lt (blk_lt (g := gb277) (o := .cells #[.int .i64 a0_0, .slice A0_1 l0_1.length c0_1] 24 (0, 0)) (zK BK277)) : gb277 ≠ gb278)); have n6_ := Aside0.mk ((by rw [hg]; exact Nat.ne_of_gt (blk_lt (g := gb277) (o := .cells #[.int .i64 a0_0, .slice A0_1 l0_1.length c0_1] 24 (0, 0)) (zK BK277)) : gb278 ≠ gb277)); clear BK277; clear HB; have BK277 := n0_; have HB := n1_; have BK278 := n2_; have GW278 := n3_; have GE278 := n4_; have NB277_278 := n5_; have NB278_277 := n6_; clear n0_ n1_ n2_ n3_ n4_ n5_ n6_; clear hb hbox hg; have hnb10 := NB277_278.out; have hnc10 := NB278_277.out; have hcz11_0 : w9.cell? ⟨gb277, 0, none⟩ = some (.int .i64 a0_0) := (blk_cell BK277.out 0).trans rfl; have hcz11_1 : w9.cell? ⟨gb277, 1, none⟩ = some (.slice A0_1 l0_1.length c0_1) := (blk_cell BK277.out 1).trans rfl; have hfz11_0 := blk_frozen BK277.out 0; have hfz11_1 := blk_frozen BK277.out 1) | ((with_reducible refine gate_callee (f := 37) rfl ?_); refine goesL_ (some 12) rfl rfl Tryd.func37 (by kernel_rfl) rfl #[.agg #[.int .i64 a0_0, .slice A0_1 l0_1.length c0_1], .slice A1 l1.length c1, .int .i64 a2] rfl (by (try simp only [List.map_toArray, List.map_cons, List.map_nil]); first | done | rfl | (simp only [List.length_drop, List.length_take]; rfl)) ?_; (with_reducible refine (enforce_arguments.calls k a0_0 _ _ l0_1 _ _ l1 a2 t279 _ ?side1 ?side2 ?side3 ?side4 A4.out).mono ?_); (case side1 => repeat (first | exact (Kd.C_below HR0_1.out HB.out) | (with_reducible refine Kd.C_alloc ?_ _) | (with_reducible refine Kd.C_drewN ?_ _) | (with_reducible refine Kd.C_drew ?_))); (case side2 => exact HC0_1.out); (case side3 => repeat (first | exact (Kd.C_below HR1.out HB.out) | (with_reducible refine Kd.C_alloc ?_ _) | (with_reducible refine Kd.C_drewN ?_ _) | (with_reducible refine Kd.C_drew ?_))); (case side4 => exact HC1.out); rintro e w12 ⟨rfl, hb⟩; refine ⟨_, rfl, ?_⟩; have n0_ := Aside0.mk (blk_below (g := gb277) (o := .cells #[.int .i64 a0_0, .slice A0_1 l0_1.length c0_1] 24 (0, 0)) (zK BK277) hb); have n1_ := Aside0.mk (blk_below (g := gb278) (o := .cells #[.slice none 0 0, .slice none 0 0, .slice none 0 0] 28 (0, 0)) (zK BK278) hb); have n2_ := Aside0.mk (below_step (zB HB) hb); clear BK277; clear BK278; clear HB; have BK277 := n0_; have BK278 := n1_; have HB := n2_; clear n0_ n1_ n2_; (try clear hb); (try clear hb2); (try clear hk); (try clear hi); have hcz13_0 : w12.cell? ⟨gb277, 0, none⟩ = some (.int .i64 a0_0) := (blk_cell BK277.out 0).trans rfl; have hcz13_1 : w12.cell? ⟨gb277, 1, none⟩ = some (.slice A0_1 l0_1.length c0_1) := (blk_cell BK277.out 1).trans rfl; have hfz13_0 := blk_frozen BK277.out 0; have hfz13_1 := blk_frozen BK277.out 1) | ((with_reducible refine gate_callee (f := 46) rfl ?_); refine goesL_ (some 20) rfl rfl Tryd.func46 (by kernel_rfl) rfl #[.agg #[.int .i64 a0_0, .slice A0_1 l0_1.length c0_1], .slice A1 l1.length c1, .int .i64 a2] rfl (by (try simp only [List.map_toArray, List.map_cons, List.map_nil]); first | done | rfl | (simp only [List.length_drop, List.length_take]; rfl)) ?_; (with_reducible refine (enforce_hopeless.calls a0_0 _ _ l0_1 _ _ l1 a2 true _ ?side1 ?side2 ?side3 ?side4 A6.out).mono ?_); (case side1 => repeat (first | exact (Kd.C_below HR0_1.out HB.out) | (with_reducible refine Kd.C_alloc ?_ _) | (with_reducible refine Kd.C_drewN ?_ _) | (with_reducible refine Kd.C_drew ?_))); (case side2 => exact HC0_1.out); (case side3 => repeat (first | exact (Kd.C_below HR1.out HB.out) | (with_reducible refine Kd.C_alloc ?_ _) | (with_reducible refine Kd.C_drewN ?_ _) | (with_reducible refine Kd.C_drew ?_))); (case side4 => exact HC1.out); rintro e w14 ⟨rfl, hb⟩; refine ⟨_, rfl, ?_⟩; have n0_ := Aside0.mk (blk_below (g := gb277) (o := .cells #[.int .i64 a0_0, .slice A0_1 l0_1.length c0_1] 24 (0, 0)) (zK BK277) hb); have n1_ := Aside0.mk (blk_below (g := gb278) (o := .cells #[.slice none 0 0, .slice none 0 0, .slice none 0 0] 28 (0, 0)) (zK BK278) hb); have n2_ := Aside0.mk (below_step (zB HB) hb); clear BK277; clear BK278; clear HB; have BK277 := n0_; have BK278 := n1_; have HB := n2_; clear n0_ n1_ n2_; (try clear hb); (try clear hb2); (try clear hk); (try clear hi); have hcz15_0 : w14.cell? ⟨gb278, 0, none⟩ = some (.slice none 0 0) := (blk_cell BK278.out 0).trans rfl; have hcz15_1 : w14.cell? ⟨gb278, 1, none⟩ = some (.slice none 0 0) := (blk_cell BK278.out 1).trans rfl; have hcz15_2 : w14.cell? ⟨gb278, 2, none⟩ = some (.slice none 0 0) := (blk_cell BK278.out 2).trans rfl; have hfz15_0 := blk_frozen BK278.out 0; have hfz15_1 := blk_frozen BK278.out 1; have hfz15_2 := blk_frozen BK278.out 2))
     refine bodyPost_ret (results_ct rfl _ _ gb278 28 #[.slice none 0 0, .slice none 0 0, .slice none 0 0] (0, 0) _ rfl (by (with_reducible repeat (first | refine blk_drewN ?_ _ | refine blk_drew ?_ | refine blk_alloc ?_ _)); refine blk_put (cs := #[.slice none 0 0, .slice none 0 0, .slice none 0 0]) ?_ 2 _ rfl; (with_reducible repeat (first | refine blk_drewN ?_ _ | refine blk_drew ?_ | refine blk_alloc ?_ _)); refine blk_put (cs := #[.slice none 0 0, .slice none 0 0, .slice none 0 0]) ?_ 1 _ rfl; (with_reducible repeat (first | refine blk_drewN ?_ _ | refine blk_drew ?_ | refine blk_alloc ?_ _)); refine blk_put (cs := #[.slice none 0 0, .slice none 0 0, .slice none 0 0]) ?_ 0 _ rfl; (with_reducible repeat (first | refine blk_drewN ?_ _ | refine blk_drew ?_ | refine blk_alloc ?_ _)); exact BK278.out) Tryd.underlying28 rfl (by kernel_rfl)) rfl ?_
     exact ⟨_, _, _, by first | rfl | (simp [errW_none, errW_some] <;> rfl) | (simp [*, errW_none, errW_some] <;> rfl), by first | exact Kd.R_nil _ _ _ _ _ | exact Kd.N_nil _ _ _ _ _ | exact Kd.V_nil _ _ _ _ _ | exact Kd.Q_nil _ _ _ _ _ | exact Kd.S_nil _ _ _ _ _ | exact Kd.R_nil _ _ _ 0 _, by first | exact Kd.R_nil _ _ _ _ _ | exact Kd.N_nil _ _ _ _ _ | exact Kd.V_nil _ _ _ _ _ | exact Kd.Q_nil _ _ _ _ _ | exact Kd.S_nil _ _ _ _ _ | exact Kd.R_nil _ _ _ 0 _, by first | exact Kd.S_nil _ _ _ _ _ | exact Kd.N_nil _ _ _ _ _ | exact Kd.V_nil _ _ _ _ _ | exact Kd.Q_nil _ _ _ _ _ | exact Kd.R_nil _ _ _ _ _ | exact Kd.R_nil _ _ _ 0 _, zB HB⟩
   · replace c7 := Bool.eq_false_iff.mpr c7
     subst c7
     have H1 : ((enforce_strict.f k a0_0 l0_1 l1 a2).bind fun bt281 => (some (bt281.1, bt281.2.1, bt281.2.2, 0))) = some (r1, r2, r3, r4) := by rw [if_neg (show ¬ (false = true) by decide)] at H; exact H
     clear H
     have H := H1
     clear H1
     replace H := Option.bind_eq_some_iff.mp H
     obtain ⟨⟨t281, t284, t287⟩, A160, H⟩ := H
     replace H : (some (t281, t284, t287, 0)) = some (r1, r2, r3, r4) := H
     have A16 := Aside0.mk A160
     clear A160
     simp only [Option.some.injEq, Prod.mk.injEq] at H
     obtain ⟨rfl, rfl, rfl, rfl⟩ := H
     go_enter Tryd.func24, Tryd.ntmps24
     go_wp2_with (first | ((with_reducible refine gate_dst (N := 3) rfl ?_); refine box_event ?hg (N := 3) ?hd (cs := #[.int .i64 a0_0, .slice A0_1 l0_1.length c0_1]) (t := 24) ?hr ?_; (case hd => rfl); (case hg => rfl); (case hr => first | (go_simp; done) | (go_simp; rfl)); intro gb277 hg w17 hbox hb; have n0_ := Aside0.mk (below_step (zB HB) hb); have n1_ := Aside0.mk (hbox); have n2_ := Aside0.mk ((by rw [hg]; exact (below_size (zB HB)) : w.heap.size ≤ gb277)); have n3_ := Aside0.mk ((by rw [hg]; exact (below_size (zB HB)) : w.heap.size ≤ gb277)); clear HB; have HB := n0_; have BK277 := n1_; have GW277 := n2_; have GE277 := n3_; clear n0_ n1_ n2_ n3_; clear hb hbox hg) | ((with_reducible refine gate_dst (N := 6) rfl ?_); refine box_event ?hg (N := 6) ?hd (cs := #[.slice none 0 0, .slice none 0 0, .slice none 0 0]) (t := 28) ?hr ?_; (case hd => rfl); (case hg => rfl); (case hr => first | (go_simp; done) | (go_simp; rfl)); intro gb278 hg w18 hbox hb; have n0_ := Aside0.mk (blk_below (g := gb277) (o := .cells #[.int .i64 a0_0, .slice A0_1 l0_1.length c0_1] 24 (0, 0)) (zK BK277) hb); have n1_ := Aside0.mk (below_step (zB HB) hb); have n2_ := Aside0.mk (hbox); have n3_ := Aside0.mk ((by rw [hg]; exact (below_size (zB HB)) : w.heap.size ≤ gb278)); have n4_ := Aside0.mk ((by rw [hg]; exact (below_size (zB HB)) : w.heap.size ≤ gb278)); have n5_ := Aside0.mk ((by rw [hg]; exact Nat.ne_of_lt (blk_lt (g := gb277) (o := .cells #[.int .i64 a0_0, .slice A0_1 l0_1.length c0_1] 24 (0, 0)) (zK BK277)) : gb277 ≠ gb278)); have n6_ := Aside0.mk ((by rw [hg]; exact Nat.ne_of_gt (blk_lt (g := gb277) (o := .cells #[.int .i64 a0_0, .slice A0_1 l0_1.length c0_1] 24 (0, 0)) (zK BK277)) : gb278 ≠ gb277)); clear BK277; clear HB; have BK277 := n0_; have HB := n1_; have BK278 := n2_; have GW278 := n3_; have GE278 := n4_; have NB277_278 := n5_; have NB278_277 := n6_; clear n0_ n1_ n2_ n3_ n4_ n5_ n6_; clear hb hbox hg; have hnb19 := NB277_278.out; have hnc19 := NB278_277.out; have hcz20_0 : w18.cell? ⟨gb277, 0, none⟩ = some (.int .i64 a0_0) := (blk_cell BK277.out 0).trans rfl; have hcz20_1 : w18.cell? ⟨gb277, 1, none⟩ = some (.slice A0_1 l0_1.length c0_1) := (blk_cell BK277.out 1).trans rfl; have hfz20_0 := blk_frozen BK277.out 0; have hfz20_1 := blk_frozen BK277.out 1) | ((with_reducible refine gate_callee (f := 37) rfl ?_); refine goesL_ (some 12) rfl rfl Tryd.func37 (by kernel_rfl) rfl #[.agg #[.int .i64 a0_0, .slice A0_1 l0_1.length c0_1], .slice A1 l1.length c1, .int .i64 a2] rfl (by (try simp only [List.map_toArray, List.map_cons, List.map_nil]); first | done | rfl | (simp only [List.length_drop, List.length_take]; rfl)) ?_; (with_reducible refine (enforce_arguments.calls k a0_0 _ _ l0_1 _ _ l1 a2 t279 _ ?side1 ?side2 ?side3 ?side4 A4.out).mono ?_); (case side1 => repeat (first | exact (Kd.C_below HR0_1.out HB.out) | (with_reducible refine Kd.C_alloc ?_ _) | (with_reducible refine Kd.C_drewN ?_ _) | (with_reducible refine Kd.C_drew ?_))); (case side2 => exact HC0_1.out); (case side3 => repeat (first | exact (Kd.C_below HR1.out HB.out) | (with_reducible refine Kd.C_alloc ?_ _) | (with_reducible refine Kd.C_drewN ?_ _) | (with_reducible refine Kd.C_drew ?_))); (case side4 => exact HC1.out); rintro e w21 ⟨rfl, hb⟩; refine ⟨_, rfl, ?_⟩; have n0_ := Aside0.mk (blk_below (g := gb277) (o := .cells #[.int .i64 a0_0, .slice A0_1 l0_1.length c0_1] 24 (0, 0)) (zK BK277) hb); have n1_ := Aside0.mk (blk_below (g := gb278) (o := .cells #[.slice none 0 0, .slice none 0 0, .slice none 0 0] 28 (0, 0)) (zK BK278) hb); have n2_ := Aside0.mk (below_step (zB HB) hb); clear BK277; clear BK278; clear HB; have BK277 := n0_; have BK278 := n1_; have HB := n2_; clear n0_ n1_ n2_; (try clear hb); (try clear hb2); (try clear hk); (try clear hi); have hcz22_0 : w21.cell? ⟨gb277, 0, none⟩ = some (.int .i64 a0_0) := (blk_cell BK277.out 0).trans rfl; have hcz22_1 : w21.cell? ⟨gb277, 1, none⟩ = some (.slice A0_1 l0_1.length c0_1) := (blk_cell BK277.out 1).trans rfl; have hfz22_0 := blk_frozen BK277.out 0; have hfz22_1 := blk_frozen BK277.out 1) | ((with_reducible refine gate_callee (f := 46) rfl ?_); refine goesL_ (some 20) rfl rfl Tryd.func46 (by kernel_rfl) rfl #[.agg #[.int .i64 a0_0, .slice A0_1 l0_1.length c0_1], .slice A1 l1.length c1, .int .i64 a2] rfl (by (try simp only [List.map_toArray, List.map_cons, List.map_nil]); first | done | rfl | (simp only [List.length_drop, List.length_take]; rfl)) ?_; (with_reducible refine (enforce_hopeless.calls a0_0 _ _ l0_1 _ _ l1 a2 false _ ?side1 ?side2 ?side3 ?side4 A6.out).mono ?_); (case side1 => repeat (first | exact (Kd.C_below HR0_1.out HB.out) | (with_reducible refine Kd.C_alloc ?_ _) | (with_reducible refine Kd.C_drewN ?_ _) | (with_reducible refine Kd.C_drew ?_))); (case side2 => exact HC0_1.out); (case side3 => repeat (first | exact (Kd.C_below HR1.out HB.out) | (with_reducible refine Kd.C_alloc ?_ _) | (with_reducible refine Kd.C_drewN ?_ _) | (with_reducible refine Kd.C_drew ?_))); (case side4 => exact HC1.out); rintro e w23 ⟨rfl, hb⟩; refine ⟨_, rfl, ?_⟩; have n0_ := Aside0.mk (blk_below (g := gb277) (o := .cells #[.int .i64 a0_0, .slice A0_1 l0_1.length c0_1] 24 (0, 0)) (zK BK277) hb); have n1_ := Aside0.mk (blk_below (g := gb278) (o := .cells #[.slice none 0 0, .slice none 0 0, .slice none 0 0] 28 (0, 0)) (zK BK278) hb); have n2_ := Aside0.mk (below_step (zB HB) hb); clear BK277; clear BK278; clear HB; have BK277 := n0_; have BK278 := n1_; have HB := n2_; clear n0_ n1_ n2_; (try clear hb); (try clear hb2); (try clear hk); (try clear hi); have hcz24_0 : w23.cell? ⟨gb277, 0, none⟩ = some (.int .i64 a0_0) := (blk_cell BK277.out 0).trans rfl; have hcz24_1 : w23.cell? ⟨gb277, 1, none⟩ = some (.slice A0_1 l0_1.length c0_1) := (blk_cell BK277.out 1).trans rfl; have hfz24_0 := blk_frozen BK277.out 0; have hfz24_1 := blk_frozen BK277.out 1) | ((with_reducible refine gate_callee (f := 47) rfl ?_); refine goesL_ (some 25) rfl rfl Tryd.func47 (by kernel_rfl) rfl #[.agg #[.int .i64 a0_0, .slice A0_1 l0_1.length c0_1], .slice A1 l1.length c1, .int .i64 a2] rfl (by (try simp only [List.map_toArray, List.map_cons, List.map_nil]); first | done | rfl | (simp only [List.length_drop, List.length_take]; rfl)) ?_; (with_reducible refine (enforce_strict.calls k a0_0 _ _ l0_1 _ _ l1 a2 t281 t284 t287 _ ?side1 ?side2 ?side3 ?side4 ?side5 A16.out).mono ?_); (case side1 => repeat (first | exact (Kd.C_below HR0_1.out HB.out) | (with_reducible refine Kd.C_alloc ?_ _) | (with_reducible refine Kd.C_drewN ?_ _) | (with_reducible refine Kd.C_drew ?_))); (case side2 => exact HC0_1.out); (case side3 => repeat (first | exact (Kd.C_below HR1.out HB.out) | (with_reducible refine Kd.C_alloc ?_ _) | (with_reducible refine Kd.C_drewN ?_ _) | (with_reducible refine Kd.C_drew ?_))); (case side4 => exact HC1.out); (case side5 => exact TabT.now HTab.out (zB HB)); rintro e w25 ⟨v282, v285, v288, rfl, ho0, ho1, ho2, hb⟩; refine ⟨_, rfl, ?_⟩; have n0_ := Aside0.mk (Kd.R_lower ho0 (below_size (zB HB))); have n1_ := Aside0.mk (Kd.R_lower ho1 (below_size (zB HB))); have n2_ := Aside0.mk (Kd.S_lower ho2 (below_size (zB HB))); have n3_ := Aside0.mk (blk_below (g := gb277) (o := .cells #[.int .i64 a0_0, .slice A0_1 l0_1.length c0_1] 24 (0, 0)) (zK BK277) hb); have n4_ := Aside0.mk (blk_below (g := gb278) (o := .cells #[.slice none 0 0, .slice none 0 0, .slice none 0 0] 28 (0, 0)) (zK BK278) hb); have n5_ := Aside0.mk (below_step (zB HB) hb); clear BK277; clear BK278; clear HB; have HO283 := n0_; have HO286 := n1_; have HO289 := n2_; have BK277 := n3_; have BK278 := n4_; have HB := n5_; clear n0_ n1_ n2_ n3_ n4_ n5_; (try clear hb); (try clear hb2); (try clear hk); (try clear hi); (try clear ho0); (try clear ho1); (try clear ho2); obtain ⟨Ao26, co26, eo26⟩ := Kd.R_slice HO283.out; subst eo26; have hcz27_0 : w25.cell? ⟨gb278, 0, none⟩ = some (.slice none 0 0) := (blk_cell BK278.out 0).trans rfl; have hcz27_1 : w25.cell? ⟨gb278, 1, none⟩ = some (.slice none 0 0) := (blk_cell BK278.out 1).trans rfl; have hcz27_2 : w25.cell? ⟨gb278, 2, none⟩ = some (.slice none 0 0) := (blk_cell BK278.out 2).trans rfl; have hfz27_0 := blk_frozen BK278.out 0; have hfz27_1 := blk_frozen BK278.out 1; have hfz27_2 := blk_frozen BK278.out 2; obtain ⟨Ao28, co28, eo28⟩ := Kd.R_slice HO286.out; subst eo28; obtain ⟨Ao29, co29, eo29⟩ := Kd.S_slice HO289.out; subst eo29))
     refine bodyPost_ret (results_ct rfl _ _ gb278 28 #[.slice Ao26 t281.length co26, .slice Ao28 t284.length co28, .slice Ao29 t287.length co29] (0, 0) _ rfl (by (with_reducible repeat (first | refine blk_drewN ?_ _ | refine blk_drew ?_ | refine blk_alloc ?_ _)); refine blk_put (cs := #[.slice Ao26 t281.length co26, .slice Ao28 t284.length co28, .slice none 0 0]) ?_ 2 _ rfl; (with_reducible repeat (first | refine blk_drewN ?_ _ | refine blk_drew ?_ | refine blk_alloc ?_ _)); refine blk_put (cs := #[.slice Ao26 t281.length co26, .slice none 0 0, .slice none 0 0]) ?_ 1 _ rfl; (with_reducible repeat (first | refine blk_drewN ?_ _ | refine blk_drew ?_ | refine blk_alloc ?_ _)); refine blk_put (cs := #[.slice none 0 0, .slice none 0 0, .slice none 0 0]) ?_ 0 _ rfl; (with_reducible repeat (first | refine blk_drewN ?_ _ | refine blk_drew ?_ | refine blk_alloc ?_ _)); exact BK278.out) Tryd.underlying28 rfl (by kernel_rfl)) rfl ?_
     exact ⟨_, _, _, by first | rfl | (simp [errW_none, errW_some] <;> rfl) | (simp [*, errW_none, errW_some] <;> rfl), by (with_reducible repeat (first | apply Kd.R_alloc | apply Kd.R_drewN | apply Kd.R_drew)); exact Kd.R_mono (Kd.R_far (p := ⟨gb278, 2, none⟩) (Kd.R_far (p := ⟨gb278, 1, none⟩) (Kd.R_far (p := ⟨gb278, 0, none⟩) (Kd.R_types HO283.out BK278.out (by decide)) (fun _ hk => hk.2) (.slice Ao26 t281.length co26)) (fun _ hk => hk.2) (.slice Ao28 t284.length co28)) (fun _ hk => hk.2) (.slice Ao29 t287.length co29)) (fun _ hk => trivial), by (with_reducible repeat (first | apply Kd.R_alloc | apply Kd.R_drewN | apply Kd.R_drew)); exact Kd.R_mono (Kd.R_far (p := ⟨gb278, 2, none⟩) (Kd.R_far (p := ⟨gb278, 1, none⟩) (Kd.R_far (p := ⟨gb278, 0, none⟩) (Kd.R_types HO286.out BK278.out (by decide)) (fun _ hk => hk.2) (.slice Ao26 t281.length co26)) (fun _ hk => hk.2) (.slice Ao28 t284.length co28)) (fun _ hk => hk.2) (.slice Ao29 t287.length co29)) (fun _ hk => trivial), by (with_reducible repeat (first | apply Kd.S_alloc | apply Kd.S_drewN | apply Kd.S_drew)); exact Kd.S_mono (Kd.S_far (p := ⟨gb278, 2, none⟩) (Kd.S_far (p := ⟨gb278, 1, none⟩) (Kd.S_far (p := ⟨gb278, 0, none⟩) (Kd.S_types HO289.out BK278.out (by decide)) (fun _ hk => hk.2) (.slice Ao26 t281.length co26)) (fun _ hk => hk.2) (.slice Ao28 t284.length co28)) (fun _ hk => hk.2) (.slice Ao29 t287.length co29)) (fun _ hk => hk.1), zB HB⟩
 · rw [if_neg c5] at H
   have c5b0 : (t279 == 0) = false := beq_eq_false_iff_ne.mpr c5
   have c5b1 : (t279 != 0) = true := bne_iff_ne.mpr c5
   simp only [Option.some.injEq, Prod.mk.injEq] at H
   obtain ⟨rfl, rfl, rfl, rfl⟩ := H
   go_enter Tryd.func24, Tryd.ntmps24
   go_wp2_with (first | ((with_reducible refine gate_dst (N := 3) rfl ?_); refine box_event ?hg (N := 3) ?hd (cs := #[.int .i64 a0_0, .slice A0_1 l0_1.length c0_1]) (t := 24) ?hr ?_; (case hd => rfl); (case hg => rfl); (case hr => first | (go_simp; done) | (go_simp; rfl)); intro gb277 hg w30 hbox hb; have n0_ := Aside0.mk (below_step (zB HB) hb); have n1_ := Aside0.mk (hbox); have n2_ := Aside0.mk ((by rw [hg]; exact (below_size (zB HB)) : w.heap.size ≤ gb277)); have n3_ := Aside0.mk ((by rw [hg]; exact (below_size (zB HB)) : w.heap.size ≤ gb277)); clear HB; have HB := n0_; have BK277 := n1_; have GW277 := n2_; have GE277 := n3_; clear n0_ n1_ n2_ n3_; clear hb hbox hg) | ((with_reducible refine gate_dst (N := 6) rfl ?_); refine box_event ?hg (N := 6) ?hd (cs := #[.slice none 0 0, .slice none 0 0, .slice none 0 0]) (t := 28) ?hr ?_; (case hd => rfl); (case hg => rfl); (case hr => first | (go_simp; done) | (go_simp; rfl)); intro gb278 hg w31 hbox hb; have n0_ := Aside0.mk (blk_below (g := gb277) (o := .cells #[.int .i64 a0_0, .slice A0_1 l0_1.length c0_1] 24 (0, 0)) (zK BK277) hb); have n1_ := Aside0.mk (below_step (zB HB) hb); have n2_ := Aside0.mk (hbox); have n3_ := Aside0.mk ((by rw [hg]; exact (below_size (zB HB)) : w.heap.size ≤ gb278)); have n4_ := Aside0.mk ((by rw [hg]; exact (below_size (zB HB)) : w.heap.size ≤ gb278)); have n5_ := Aside0.mk ((by rw [hg]; exact Nat.ne_of_lt (blk_lt (g := gb277) (o := .cells #[.int .i64 a0_0, .slice A0_1 l0_1.length c0_1] 24 (0, 0)) (zK BK277)) : gb277 ≠ gb278)); have n6_ := Aside0.mk ((by rw [hg]; exact Nat.ne_of_gt (blk_lt (g := gb277) (o := .cells #[.int .i64 a0_0, .slice A0_1 l0_1.length c0_1] 24 (0, 0)) (zK BK277)) : gb278 ≠ gb277)); clear BK277; clear HB; have BK277 := n0_; have HB := n1_; have BK278 := n2_; have GW278 := n3_; have GE278 := n4_; have NB277_278 := n5_; have NB278_277 := n6_; clear n0_ n1_ n2_ n3_ n4_ n5_ n6_; clear hb hbox hg; have hnb32 := NB277_278.out; have hnc32 := NB278_277.out; have hcz33_0 : w31.cell? ⟨gb277, 0, none⟩ = some (.int .i64 a0_0) := (blk_cell BK277.out 0).trans rfl; have hcz33_1 : w31.cell? ⟨gb277, 1, none⟩ = some (.slice A0_1 l0_1.length c0_1) := (blk_cell BK277.out 1).trans rfl; have hfz33_0 := blk_frozen BK277.out 0; have hfz33_1 := blk_frozen BK277.out 1) | ((with_reducible refine gate_callee (f := 37) rfl ?_); refine goesL_ (some 12) rfl rfl Tryd.func37 (by kernel_rfl) rfl #[.agg #[.int .i64 a0_0, .slice A0_1 l0_1.length c0_1], .slice A1 l1.length c1, .int .i64 a2] rfl (by (try simp only [List.map_toArray, List.map_cons, List.map_nil]); first | done | rfl | (simp only [List.length_drop, List.length_take]; rfl)) ?_; (with_reducible refine (enforce_arguments.calls k a0_0 _ _ l0_1 _ _ l1 a2 t279 _ ?side1 ?side2 ?side3 ?side4 A4.out).mono ?_); (case side1 => repeat (first | exact (Kd.C_below HR0_1.out HB.out) | (with_reducible refine Kd.C_alloc ?_ _) | (with_reducible refine Kd.C_drewN ?_ _) | (with_reducible refine Kd.C_drew ?_))); (case side2 => exact HC0_1.out); (case side3 => repeat (first | exact (Kd.C_below HR1.out HB.out) | (with_reducible refine Kd.C_alloc ?_ _) | (with_reducible refine Kd.C_drewN ?_ _) | (with_reducible refine Kd.C_drew ?_))); (case side4 => exact HC1.out); rintro e w34 ⟨rfl, hb⟩; refine ⟨_, rfl, ?_⟩; have n0_ := Aside0.mk (blk_below (g := gb277) (o := .cells #[.int .i64 a0_0, .slice A0_1 l0_1.length c0_1] 24 (0, 0)) (zK BK277) hb); have n1_ := Aside0.mk (blk_below (g := gb278) (o := .cells #[.slice none 0 0, .slice none 0 0, .slice none 0 0] 28 (0, 0)) (zK BK278) hb); have n2_ := Aside0.mk (below_step (zB HB) hb); clear BK277; clear BK278; clear HB; have BK277 := n0_; have BK278 := n1_; have HB := n2_; clear n0_ n1_ n2_; (try clear hb); (try clear hb2); (try clear hk); (try clear hi); have hcz35_0 : w34.cell? ⟨gb278, 0, none⟩ = some (.slice none 0 0) := (blk_cell BK278.out 0).trans rfl; have hcz35_1 : w34.cell? ⟨gb278, 1, none⟩ = some (.slice none 0 0) := (blk_cell BK278.out 1).trans rfl; have hcz35_2 : w34.cell? ⟨gb278, 2, none⟩ = some (.slice none 0 0) := (blk_cell BK278.out 2).trans rfl; have hfz35_0 := blk_frozen BK278.out 0; have hfz35_1 := blk_frozen BK278.out 1; have hfz35_2 := blk_frozen BK278.out 2))
   refine bodyPost_ret (results_ct rfl _ _ gb278 28 #[.slice none 0 0, .slice none 0 0, .slice none 0 0] (0, 0) _ rfl (by (with_reducible repeat (first | refine blk_drewN ?_ _ | refine blk_drew ?_ | refine blk_alloc ?_ _)); refine blk_put (cs := #[.slice none 0 0, .slice none 0 0, .slice none 0 0]) ?_ 2 _ rfl; (with_reducible repeat (first | refine blk_drewN ?_ _ | refine blk_drew ?_ | refine blk_alloc ?_ _)); refine blk_put (cs := #[.slice none 0 0, .slice none 0 0, .slice none 0 0]) ?_ 1 _ rfl; (with_reducible repeat (first | refine blk_drewN ?_ _ | refine blk_drew ?_ | refine blk_alloc ?_ _)); refine blk_put (cs := #[.slice none 0 0, .slice none 0 0, .slice none 0 0]) ?_ 0 _ rfl; (with_reducible repeat (first | refine blk_drewN ?_ _ | refine blk_drew ?_ | refine blk_alloc ?_ _)); exact BK278.out) Tryd.underlying28 rfl (by kernel_rfl)) rfl ?_
   exact ⟨_, _, _, by first | rfl | (simp [errW_none, errW_some] <;> rfl) | (simp [*, errW_none, errW_some] <;> rfl), by first | exact Kd.R_nil _ _ _ _ _ | exact Kd.N_nil _ _ _ _ _ | exact Kd.V_nil _ _ _ _ _ | exact Kd.Q_nil _ _ _ _ _ | exact Kd.S_nil _ _ _ _ _ | exact Kd.R_nil _ _ _ 0 _, by first | exact Kd.R_nil _ _ _ _ _ | exact Kd.N_nil _ _ _ _ _ | exact Kd.V_nil _ _ _ _ _ | exact Kd.Q_nil _ _ _ _ _ | exact Kd.S_nil _ _ _ _ _ | exact Kd.R_nil _ _ _ 0 _, by first | exact Kd.S_nil _ _ _ _ _ | exact Kd.N_nil _ _ _ _ _ | exact Kd.V_nil _ _ _ _ _ | exact Kd.Q_nil _ _ _ _ _ | exact Kd.R_nil _ _ _ _ _ | exact Kd.R_nil _ _ _ 0 _, zB HB⟩
end Go.Proofs.YtjmdlmogdbhdhaaDoor.P
namespace Go.Proofs.YtjmdlmogdbhdhaaDoor.P
open Go.RowKit Go.Proofs.YtjmdlmogdbhdhaaDoorW.PrintWords Go.Proofs.YtjmdlmogdbhdhaaDoorW.PrintLast Go.Proofs.YtjmdlmogdbhdhaaDoorW.PrintMore
attribute [local go_sem] max2_int min2_int max_two min_two max_three min_three max_four min_four   -- for this text's walks alone
set_option linter.unusedVariables false
set_option linter.unusedSimpArgs false
attribute [local go_sem high] eqA42
/-! ### deliberationnet_Pairs: function 31 -/
def deliberationnet_Pairs.l0 : Nat → List (S42) → List (S42) → Int → Option (Bool)
 | 0, _, _, _ => none
 | k + 1, x0, x1, x5 => if x5 < (x0.length : Int) then (if 0 ≤ x5 then (if x5 < (x1.length : Int) then (if (!(((rd_T42 x0 x5).f0) == ((rd_T42 x1 x5).f0)) || (!(((rd_T42 x0 x5).f1) == ((rd_T42 x1 x5).f1)))) = true then (some false) else (deliberationnet_Pairs.l0 k x0 x1 (wrap64 (x5 + 1)))) else (none)) else (none)) else (some true)
def deliberationnet_Pairs.f (k : Nat) (l0 : List (S42)) (l1 : List (S42)) : Option (Bool) := if (l0.length : Int) = (l1.length : Int) then (deliberationnet_Pairs.l0 k l0 l1 0) else (some false)
theorem deliberationnet_Pairs.mono_l : ∀ k, (∀ y0 y1 y2, LeO (deliberationnet_Pairs.l0 k y0 y1 y2) (deliberationnet_Pairs.l0 (k + 1) y0 y1 y2))
 | 0 => fun _ _ _ r h => by simp [deliberationnet_Pairs.l0] at h
 | k + 1 => by
  have ih0 := deliberationnet_Pairs.mono_l k
  · intro y0 y1 y2
    unfold deliberationnet_Pairs.l0
    repeat' first
    | (with_reducible exact ih0 _ _ _)
    | (with_reducible exact LeO.refl _)
    | (with_reducible exact LeO.none _)
    | (with_reducible refine LeO.ite ?_ ?_)
    | (with_reducible refine LeO.bind ?_ (fun _ => ?_))
    | exact ih0 _ _ _
    | exact LeO.none _
    | refine LeO.ite ?_ ?_
    | refine LeO.bind ?_ (fun _ => ?_)
theorem deliberationnet_Pairs.mono : ∀ a0 a1 k, LeO (deliberationnet_Pairs.f k a0 a1) (deliberationnet_Pairs.f (k + 1) a0 a1) := by
 intro a0 a1 k
 have ih0 := deliberationnet_Pairs.mono_l k
 unfold deliberationnet_Pairs.f
 repeat' first
  | (with_reducible exact ih0 _ _ _)
  | (with_reducible exact LeO.refl _)
  | (with_reducible exact LeO.none _)
  | (with_reducible refine LeO.ite ?_ ?_)
  | (with_reducible refine LeO.bind ?_ (fun _ => ?_))
  | exact ih0 _ _ _
  | exact LeO.none _
  | refine LeO.ite ?_ ?_
  | refine LeO.bind ?_ (fun _ => ?_)
set_option maxHeartbeats 8000000 in
set_option maxRecDepth 100000 in
theorem deliberationnet_Pairs.calls (k : Nat) (A0 : Option Addr) (c0 : Nat) (l0 : List (S42)) (A1 : Option Addr) (c1 : Nat) (l1 : List (S42)) (r : Bool) (w : World) (hr0 : Kd.C k42 w A0 l0.length l0) (hc0 : l0.length ≤ c0) (hr1 : Kd.C k42 w A1 l1.length l1) (hc1 : l1.length ≤ c1) (h : deliberationnet_Pairs.f k l0 l1 = some r) :
 Calls Tryd.prog 31 #[.slice A0 l0.length c0, .slice A1 l1.length c1] w fun e w' => e = .returned (.bool r) ∧ Drawn0 w w' := by
 have hu42 := Tryd.underlying42
 have HR0 := Aside0.mk hr0
 have HC0 := Aside0.mk hc0
 clear hr0 hc0
 have HR1 := Aside0.mk hr1
 have HC1 := Aside0.mk hc1
 clear hr1 hc1
 have H : (if (l0.length : Int) = (l1.length : Int) then (deliberationnet_Pairs.l0 k l0 l1 0) else (some false)) = some r := h
 clear h
 by_cases c3 : (l0.length : Int) = (l1.length : Int)
 · rw [if_pos c3] at H
   have c3b0 : ((l0.length : Int) == (l1.length : Int)) = true := beq_iff_eq.mpr c3
   have c3b1 : ((l0.length : Int) != (l1.length : Int)) = false := bne_eq_false_iff_eq.mpr c3
   have c3b2 : (l0.length == l1.length) = true := by first | simpa using c3 | (simp at c3 ⊢; omega)
   clear c3
   have H' := Aside0.mk H
   clear H
   go_enter Tryd.func31, Tryd.ntmps31
   go_wp2
   repeat (go_quiet (fail); try go_wp2)
   go_loopg [5] k (fun kq v5 w' => ∃ (x5_1 : Int), v5 = .int .i64 x5_1 ∧ Aside0 (deliberationnet_Pairs.l0 kq l0 l1 x5_1 = some r) ∧ Aside0 (kq ≤ k) ∧ Drawn0 w w')
   case atStart => exact ⟨(0), (by first | rfl | (simp; done) | (simp [*]; done)), H', ⟨Nat.le_refl _⟩, by repeat (first | exact Drawn0.refl _ | apply Drawn0.step)⟩
   case round =>
    clear H'
    try clear c1
    try clear p2
    try clear c3
    try clear c3b0
    try clear c3b1
    try clear c3b2
    obtain ⟨x5_1, rfl, HA, HK1, ⟨m1, rfl⟩⟩ := hrel
    cases gk with
    | zero => exact absurd HA.out (by simp [deliberationnet_Pairs.l0])
    | succ k1 =>
     have H := HA.out
     clear HA
     simp only [deliberationnet_Pairs.l0] at H
     by_cases c4 : x5_1 < (l0.length : Int)
     · rw [if_pos c4] at H
       have c4b0 : decide (x5_1 < (l0.length : Int)) = true := decide_eq_true c4
       clear c4
       by_cases c5 : 0 ≤ x5_1
       · rw [if_pos c5] at H
         have c5b0 : decide (0 ≤ x5_1) = true := decide_eq_true c5
         clear c5
         by_cases c6 : x5_1 < (l1.length : Int)
         · rw [if_pos c6] at H
           have c6b0 : decide (x5_1 < (l1.length : Int)) = true := decide_eq_true c6
           clear c6
           by_cases c7 : (!(((rd_T42 l0 x5_1).f0) == ((rd_T42 l1 x5_1).f0)) || (!(((rd_T42 l0 x5_1).f1) == ((rd_T42 l1 x5_1).f1)))) = true
           · rw [if_pos c7] at H
             have c7b0 : (!(((rd_T42 l0 x5_1).f0) == ((rd_T42 l1 x5_1).f0)) || (!(((rd_T42 l0 x5_1).f1) == ((rd_T42 l1 x5_1).f1)))) = true := c7
             clear c7
             obtain rfl := Option.some.inj H
             have p290 : 0 ≤ (x5_1 : Int) := of_decide_eq_true (by first | (with_reducible assumption) | assumption)
             have q290 : x5_1 < (l0.length : Int) := of_decide_eq_true (by first | (with_reducible assumption) | assumption)
             obtain ⟨ad290, e290, hx290_0, hx290_1⟩ := at_T42 HR0.out x5_1 p290 q290
             cases e290
             replace p290 := eq_true p290
             replace q290 := eq_true q290
             have p291 : 0 ≤ (x5_1 : Int) := of_decide_eq_true (by first | (with_reducible assumption) | assumption)
             have q291 : x5_1 < (l1.length : Int) := of_decide_eq_true (by first | (with_reducible assumption) | assumption)
             obtain ⟨ad291, e291, hx291_0, hx291_1⟩ := at_T42 HR1.out x5_1 p291 q291
             cases e291
             replace p291 := eq_true p291
             replace q291 := eq_true q291
             go_wp2
             repeat (go_quiet (fail); try go_wp2)
             go_ret
             exact ⟨by first | rfl | (simp; done) | (simp [*]; done), by repeat (first | exact Drawn0.refl _ | apply Drawn0.step)⟩
           · rw [if_neg c7] at H
             have c7b0 : (!(((rd_T42 l0 x5_1).f0) == ((rd_T42 l1 x5_1).f0)) || (!(((rd_T42 l0 x5_1).f1) == ((rd_T42 l1 x5_1).f1)))) = false := by simpa using c7
             clear c7
             have H' := Aside0.mk H
             clear H
             have p290 : 0 ≤ (x5_1 : Int) := of_decide_eq_true (by first | (with_reducible assumption) | assumption)
             have q290 : x5_1 < (l0.length : Int) := of_decide_eq_true (by first | (with_reducible assumption) | assumption)
             obtain ⟨ad290, e290, hx290_0, hx290_1⟩ := at_T42 HR0.out x5_1 p290 q290
             cases e290
             replace p290 := eq_true p290
             replace q290 := eq_true q290
             have p291 : 0 ≤ (x5_1 : Int) := of_decide_eq_true (by first | (with_reducible assumption) | assumption)
             have q291 : x5_1 < (l1.length : Int) := of_decide_eq_true (by first | (with_reducible assumption) | assumption)
             obtain ⟨ad291, e291, hx291_0, hx291_1⟩ := at_T42 HR1.out x5_1 p291 q291
             cases e291
             replace p291 := eq_true p291
             replace q291 := eq_true q291
             go_wp2
             repeat (go_quiet (fail); try go_wp2)
             go_roundg k1
             case measure => have := HK1.out; omega
             case rel => exact ⟨(wrap64 (x5_1 + 1)), (by first | rfl | (simp; done) | (simp [*]; done)), H', ⟨by have := HK1.out; omega⟩, by repeat (first | exact Drawn0.refl _ | apply Drawn0.step)⟩
         · rw [if_neg c6] at H
           exact absurd H (by simp)
       · rw [if_neg c5] at H
         exact absurd H (by simp)
     · rw [if_neg c4] at H
       have c4b0 : decide (x5_1 < (l0.length : Int)) = false := decide_eq_false c4
       clear c4
       obtain rfl := Option.some.inj H
       go_wp2
       repeat (go_quiet (fail); try go_wp2)
       go_ret
       exact ⟨by first | rfl | (simp; done) | (simp [*]; done), by repeat (first | exact Drawn0.refl _ | apply Drawn0.step)⟩
 · rw [if_neg c3] at H
   have c3b0 : ((l0.length : Int) == (l1.length : Int)) = false := beq_eq_false_iff_ne.mpr c3
   have c3b1 : ((l0.length : Int) != (l1.length : Int)) = true := bne_iff_ne.mpr c3
   have c3b2 : (l0.length == l1.length) = false := by first | simpa using c3 | (simp at c3 ⊢; omega)
   obtain rfl := Option.some.inj H
   go_enter Tryd.func31, Tryd.ntmps31
   go_wp2
   repeat (go_quiet (fail); try go_wp2)
   go_ret
   exact ⟨by first | rfl | (simp; done) | (simp [*]; done), by repeat (first | exact Drawn0.refl _ | apply Drawn0.step)⟩
end Go.Proofs.YtjmdlmogdbhdhaaDoor.P
namespace Go.Proofs.YtjmdlmogdbhdhaaDoor.P
open Go.RowKit Go.Proofs.YtjmdlmogdbhdhaaDoorW.PrintWords Go.Proofs.YtjmdlmogdbhdhaaDoorW.PrintLast Go.Proofs.YtjmdlmogdbhdhaaDoorW.PrintMore
attribute [local go_sem] max2_int min2_int max_two min_two max_three min_three max_four min_four   -- for this text's walks alone
set_option linter.unusedVariables false
set_option linter.unusedSimpArgs false
/-! ### deliberationlaw21_awake: function 10 -/
def deliberationlaw21_awake.f (k : Nat)  : Option (Bool) := (some (([(⟨1, 0⟩ : S42)] : List (S42)) : List (S42))).bind fun y292 => ((enforce_Strict.f k 2 y292 (([0] : List Int)) 1).bind fun bt299 => (if bt299.2.2.2 = 0 then ((deliberationnet_Pairs.f k bt299.2.1 (([(⟨0, 1⟩ : S42)] : List (S42)))).bind fun t313 => (if t313 = true then (if (bt299.2.2.1.length : Int) = 1 then (if 0 < (bt299.2.2.1.length : Int) then (if ((rd_L2 bt299.2.2.1 0).length : Int) = 2 then ((enforce_Check.f k 2 y292 1 bt299.1 bt299.2.1 bt299.2.2.1).bind fun t315 => (some (t315 == 0))) else (some false)) else (none)) else (some false)) else (some false))) else (some false)))
theorem deliberationlaw21_awake.mono : ∀ k, LeO (deliberationlaw21_awake.f k ) (deliberationlaw21_awake.f (k + 1) ) := by
 intro  k
 unfold deliberationlaw21_awake.f
 repeat' first
  | (with_reducible exact deliberationnet_Pairs.mono _ _ _)
  | (with_reducible exact enforce_Check.mono _ _ _ _ _ _ _)
  | (with_reducible exact enforce_Strict.mono _ _ _ _ _)
  | (with_reducible exact LeO.refl _)
  | (with_reducible exact LeO.none _)
  | (with_reducible refine LeO.ite ?_ ?_)
  | (with_reducible refine LeO.bind ?_ (fun _ => ?_))
  | exact deliberationnet_Pairs.mono _ _ _
  | exact enforce_Check.mono _ _ _ _ _ _ _
  | exact enforce_Strict.mono _ _ _ _ _
  | exact LeO.none _
  | refine LeO.ite ?_ ?_
  | refine LeO.bind ?_ (fun _ => ?_)
set_option maxHeartbeats 8000000 in
set_option maxRecDepth 100000 in
theorem deliberationlaw21_awake.calls (k : Nat)  (w : World) (hT : TabT w) (h : deliberationlaw21_awake.f k  = some true) :
 Calls Tryd.prog 10 #[] w fun e w' => e = .returned (.bool true) ∧ Below w.heap.size w w' := by
 have hu42 := Tryd.underlying42
 have hu24 := Tryd.underlying24
 have hu28 := Tryd.underlying28
 have HTab := Aside0.mk hT
 clear hT
 have HB := Aside0.mk (Below.refl w.heap.size w)
 have H : ((some (([(⟨1, 0⟩ : S42)] : List (S42)) : List (S42))).bind fun y292 => ((enforce_Strict.f k 2 y292 (([0] : List Int)) 1).bind fun bt299 => (if bt299.2.2.2 = 0 then ((deliberationnet_Pairs.f k bt299.2.1 (([(⟨0, 1⟩ : S42)] : List (S42)))).bind fun t313 => (if t313 = true then (if (bt299.2.2.1.length : Int) = 1 then (if 0 < (bt299.2.2.1.length : Int) then (if ((rd_L2 bt299.2.2.1 0).length : Int) = 2 then ((enforce_Check.f k 2 y292 1 bt299.1 bt299.2.1 bt299.2.2.1).bind fun t315 => (some (t315 == 0))) else (some false)) else (none)) else (some false)) else (some false))) else (some false)))) = some true := h
 clear h
 obtain ⟨y292, hy292⟩ : ∃ y_ : List (S42), y_ = (([(⟨1, 0⟩ : S42)] : List (S42))) := ⟨_, rfl⟩
 replace H : ((enforce_Strict.f k 2 y292 (([0] : List Int)) 1).bind fun bt299 => (if bt299.2.2.2 = 0 then ((deliberationnet_Pairs.f k bt299.2.1 (([(⟨0, 1⟩ : S42)] : List (S42)))).bind fun t313 => (if t313 = true then (if (bt299.2.2.1.length : Int) = 1 then (if 0 < (bt299.2.2.1.length : Int) then (if ((rd_L2 bt299.2.2.1 0).length : Int) = 2 then ((enforce_Check.f k 2 y292 1 bt299.1 bt299.2.1 bt299.2.2.1).bind fun t315 => (some (t315 == 0))) else (some false)) else (none)) else (some false)) else (some false))) else (some false))) = some true := by first | (rw [hy292]; with_reducible exact H) | (have H2_ := (Option.bind_some _ _).symm.trans H; rw [hy292]; with_reducible exact H2_) | (have H2_ := (Option.bind_some _ _).symm.trans H; with_reducible exact H2_) | with_reducible exact H | (rw [hy292]; exact H) | exact H
 have Ny292 := Aside0.mk hy292
 clear hy292
 obtain ⟨y296, hy296⟩ : ∃ y_ : List Int, y_ = (([0] : List Int)) := ⟨_, rfl⟩
 replace H : ((enforce_Strict.f k 2 y292 y296 1).bind fun bt299 => (if bt299.2.2.2 = 0 then ((deliberationnet_Pairs.f k bt299.2.1 (([(⟨0, 1⟩ : S42)] : List (S42)))).bind fun t313 => (if t313 = true then (if (bt299.2.2.1.length : Int) = 1 then (if 0 < (bt299.2.2.1.length : Int) then (if ((rd_L2 bt299.2.2.1 0).length : Int) = 2 then ((enforce_Check.f k 2 y292 1 bt299.1 bt299.2.1 bt299.2.2.1).bind fun t315 => (some (t315 == 0))) else (some false)) else (none)) else (some false)) else (some false))) else (some false))) = some true := by first | (rw [hy296]; with_reducible exact H) | (have H2_ := (Option.bind_some _ _).symm.trans H; rw [hy296]; with_reducible exact H2_) | (have H2_ := (Option.bind_some _ _).symm.trans H; with_reducible exact H2_) | with_reducible exact H | (rw [hy296]; exact H) | exact H
 have Ny296 := Aside0.mk hy296
 clear hy296
 replace H := Option.bind_eq_some_iff.mp H
 obtain ⟨⟨t299, t302, t305, t308⟩, A10, H⟩ := H
 replace H : (if t308 = 0 then ((deliberationnet_Pairs.f k t302 (([(⟨0, 1⟩ : S42)] : List (S42)))).bind fun t313 => (if t313 = true then (if (t305.length : Int) = 1 then (if 0 < (t305.length : Int) then (if ((rd_L2 t305 0).length : Int) = 2 then ((enforce_Check.f k 2 y292 1 t299 t302 t305).bind fun t315 => (some (t315 == 0))) else (some false)) else (none)) else (some false)) else (some false))) else (some false)) = some true := H
 have A1 := Aside0.mk A10
 clear A10
 by_cases c2 : t308 = 0
 · rw [if_pos c2] at H
   have c2b0 : (t308 == 0) = true := beq_iff_eq.mpr c2
   have c2b1 : (t308 != 0) = false := bne_eq_false_iff_eq.mpr c2
   clear c2
   obtain ⟨y310, hy310⟩ : ∃ y_ : List (S42), y_ = (([(⟨0, 1⟩ : S42)] : List (S42))) := ⟨_, rfl⟩
   replace H : ((deliberationnet_Pairs.f k t302 y310).bind fun t313 => (if t313 = true then (if (t305.length : Int) = 1 then (if 0 < (t305.length : Int) then (if ((rd_L2 t305 0).length : Int) = 2 then ((enforce_Check.f k 2 y292 1 t299 t302 t305).bind fun t315 => (some (t315 == 0))) else (some false)) else (none)) else (some false)) else (some false))) = some true := by first | (rw [hy310]; with_reducible exact H) | (have H2_ := (Option.bind_some _ _).symm.trans H; rw [hy310]; with_reducible exact H2_) | (have H2_ := (Option.bind_some _ _).symm.trans H; with_reducible exact H2_) | with_reducible exact H | (rw [hy310]; exact H) | exact H
   have Ny310 := Aside0.mk hy310
   clear hy310
   replace H := Option.bind_eq_some_iff.mp H
   obtain ⟨t313, A30, H⟩ := H
   replace H : (if t313 = true then (if (t305.length : Int) = 1 then (if 0 < (t305.length : Int) then (if ((rd_L2 t305 0).length : Int) = 2 then ((enforce_Check.f k 2 y292 1 t299 t302 t305).bind fun t315 => (some (t315 == 0))) else (some false)) else (none)) else (some false)) else (some false)) = some true := H
   have A3 := Aside0.mk A30
   clear A30
   by_cases c4 : t313 = true
   · subst c4
     have H1 : (if (t305.length : Int) = 1 then (if 0 < (t305.length : Int) then (if ((rd_L2 t305 0).length : Int) = 2 then ((enforce_Check.f k 2 y292 1 t299 t302 t305).bind fun t315 => (some (t315 == 0))) else (some false)) else (none)) else (some false)) = some true := by rw [if_pos rfl] at H; exact H
     clear H
     have H := H1
     clear H1
     by_cases c5 : (t305.length : Int) = 1
     · rw [if_pos c5] at H
       have c5b0 : ((t305.length : Int) == 1) = true := beq_iff_eq.mpr c5
       have c5b1 : ((t305.length : Int) != 1) = false := bne_eq_false_iff_eq.mpr c5
       clear c5
       by_cases c6 : 0 < (t305.length : Int)
       · rw [if_pos c6] at H
         have c6b0 : decide (0 < (t305.length : Int)) = true := decide_eq_true c6
         have c6b1 : decide (0 < t305.length) = true := decide_eq_true (by omega)
         clear c6
         by_cases c7 : ((rd_L2 t305 0).length : Int) = 2
         · rw [if_pos c7] at H
           have c7b0 : (((rd_L2 t305 0).length : Int) == 2) = true := beq_iff_eq.mpr c7
           have c7b1 : (((rd_L2 t305 0).length : Int) != 2) = false := bne_eq_false_iff_eq.mpr c7
           clear c7
           replace H := Option.bind_eq_some_iff.mp H
           obtain ⟨t315, A80, H⟩ := H
           replace H : (some (t315 == 0)) = some true := H
           have A8 := Aside0.mk A80
           clear A80
           obtain rfl := eq_of_beq (Option.some.inj H)
           go_enter Tryd.func10, Tryd.ntmps10
           go_wp2_with (first | ((with_reducible refine gate_dst (N := 5) rfl ?_); (try (refine gate_guard (by rfl) ?_; dsimp only)); refine Kd.R_lit k42 _ 42 ?hg (N := 5) ?hd (xs := ([(⟨1, 0⟩ : S42)] : List (S42))) (inner := [.int .i64 1, .int .i64 0]) (ok := fun _ => True) (okp := fun _ => True) ?hr ?hp (fun _ hk => hk) trivial (Below.refl _ _) (Nat.le_refl _) (by simp) ?_; (case hd => rfl); (case hg => rfl); (case hr => first | (go_simp; done) | (go_simp; rfl)); (case hp => exact (Reps.c2 (show Kd.M k42 _ _ _ (⟨1, 0⟩ : S42) [.int .i64 1, .int .i64 0] from (k42_mkM _ _ _ (⟨1, 0⟩ : S42) )) (Reps.none _ _))); intro v293 w9 ho10 hb hg_ hnew_; clear hg_ hnew_; (first | rw [← Ny292.out] at ho10 | (simp only [Int.reduceToNat] at ho10; rw [← Ny292.out] at ho10)); have n0_ := Aside0.mk (Kd.R_lower ho10 (below_size (zB HB))); have n1_ := Aside0.mk (below_step (zB HB) hb); clear HB; have HO294 := n0_; have HB := n1_; clear n0_ n1_; clear hb ho10; obtain ⟨Ao11, co11, eo11⟩ := Kd.R_slice HO294.out; subst eo11) | ((with_reducible refine gate_dst (N := 1) rfl ?_); (try (refine gate_guard (by rfl) ?_; dsimp only)); refine box_event ?hg (N := 1) ?hd (cs := #[.int .i64 0, .slice none 0 0]) (t := 24) ?hr ?_; (case hd => rfl); (case hg => rfl); (case hr => first | (go_simp; done) | (go_simp; rfl)); intro gb295 hg w12 hbox hb; have n0_ := Aside0.mk (Kd.R_below (zR HO294) hb); have n1_ := Aside0.mk (below_step (zB HB) hb); have n2_ := Aside0.mk (hbox); have n3_ := Aside0.mk ((by rw [hg]; exact (below_size (zB HB)) : w.heap.size ≤ gb295)); have n4_ := Aside0.mk ((by rw [hg]; exact (below_size (zB HB)) : w.heap.size ≤ gb295)); clear HO294; clear HB; have HO294 := n0_; have HB := n1_; have BK295 := n2_; have GW295 := n3_; have GE295 := n4_; clear n0_ n1_ n2_ n3_ n4_; clear hb hbox hg; have hcz13_0 : w12.cell? ⟨gb295, 0, none⟩ = some (.int .i64 0) := (blk_cell BK295.out 0).trans rfl; have hcz13_1 : w12.cell? ⟨gb295, 1, none⟩ = some (.slice none 0 0) := (blk_cell BK295.out 1).trans rfl; have hfz13_0 := blk_frozen BK295.out 0; have hfz13_1 := blk_frozen BK295.out 1) | ((with_reducible refine gate_dst (N := 9) rfl ?_); (try (refine gate_guard (by rfl) ?_; dsimp only)); refine Kd.R_lit (Kd.int .i64) _ 3 ?hg (N := 9) ?hd (xs := ([0] : List Int)) (inner := [.int .i64 0]) (ok := fun _ => True) (okp := fun _ => True) ?hr ?hp (fun _ hk => hk) trivial (Below.refl _ _) (Nat.le_refl _) (by simp) ?_; (case hd => rfl); (case hg => rfl); (case hr => first | (go_simp; done) | (go_simp; rfl)); (case hp => exact (Reps.one (show Kd.M (Kd.int .i64) _ _ _ 0 [.int .i64 0] from rfl) (Reps.none _ _))); intro v297 w14 ho15 hb hg_ hnew_; clear hg_ hnew_; (first | rw [← Ny296.out] at ho15 | (simp only [Int.reduceToNat] at ho15; rw [← Ny296.out] at ho15)); have n0_ := Aside0.mk (Kd.R_below (by (with_reducible repeat (first | apply Kd.R_alloc | apply Kd.R_drewN | apply Kd.R_drew)); exact (Kd.R_mono (Kd.R_far (p := ⟨gb295, 1, none⟩) (Kd.R_far (p := ⟨gb295, 0, none⟩) (Kd.R_types HO294.out BK295.out (by decide)) (fun _ hk => hk.2) (.int .i64 2)) (fun _ hk => hk.2) (.slice Ao11 y292.length co11)) (fun _ h_ => h_.1))) hb); have n1_ := Aside0.mk (Kd.R_lower ho15 (below_size (zB HB))); have n2_ := Aside0.mk (blk_below (g := gb295) (o := .cells #[.int .i64 2, .slice Ao11 y292.length co11] 24 (0, 0)) (by (with_reducible repeat (first | refine blk_drewN ?_ _ | refine blk_drew ?_ | refine blk_alloc ?_ _)); refine blk_put (cs := #[.int .i64 2, .slice none 0 0]) ?_ 1 _ rfl; (with_reducible repeat (first | refine blk_drewN ?_ _ | refine blk_drew ?_ | refine blk_alloc ?_ _)); refine blk_put (cs := #[.int .i64 0, .slice none 0 0]) ?_ 0 _ rfl; (with_reducible repeat (first | refine blk_drewN ?_ _ | refine blk_drew ?_ | refine blk_alloc ?_ _)); exact BK295.out) hb); have n3_ := Aside0.mk (below_step (zB HB) hb); clear HO294; clear BK295; clear HB; have HO294 := n0_; have HO298 := n1_; have BK295 := n2_; have HB := n3_; clear n0_ n1_ n2_ n3_; clear hb ho15; obtain ⟨Ao16, co16, eo16⟩ := Kd.R_slice HO298.out; subst eo16) | ((with_reducible refine gate_callee (f := 24) rfl ?_); refine goesL_ (some 10) rfl rfl Tryd.func24 (by kernel_rfl) rfl #[.agg #[.int .i64 2, .slice Ao11 y292.length co11], .slice Ao16 y296.length co16, .int .i64 1] rfl (by (try simp only [List.map_toArray, List.map_cons, List.map_nil]); first | done | rfl | (simp only [List.length_drop, List.length_take]; rfl)) ?_; (with_reducible refine (enforce_Strict.calls k 2 _ _ y292 _ _ y296 1 t299 t302 t305 t308 _ ?side1 ?side2 ?side3 ?side4 ?side5 A1.out).mono ?_); (case side1 => repeat (first | exact (Kd.R_reads' HO294.out).2.2 | (with_reducible refine Kd.C_alloc ?_ _) | (with_reducible refine Kd.C_drewN ?_ _) | (with_reducible refine Kd.C_drew ?_))); (case side2 => exact (Kd.R_reads' HO294.out).2.1); (case side3 => repeat (first | exact (Kd.R_reads' HO298.out).2.2 | (with_reducible refine Kd.C_alloc ?_ _) | (with_reducible refine Kd.C_drewN ?_ _) | (with_reducible refine Kd.C_drew ?_))); (case side4 => exact (Kd.R_reads' HO298.out).2.1); (case side5 => exact TabT.now HTab.out (zB HB)); rintro e w17 ⟨v300, v303, v306, rfl, ho0, ho1, ho2, hb⟩; refine ⟨_, rfl, ?_⟩; have n0_ := Aside0.mk (Kd.R_elder' (zR HO294) (Kd.R_base ho1) hb); have n1_ := Aside0.mk (Kd.R_elder' (zR HO298) (Kd.R_base ho0) hb); have n2_ := Aside0.mk (Kd.R_lower (Kd.R_new' ho0 (Kd.R_lt (zR HO298))) (below_size (zB HB))); have n3_ := Aside0.mk (Kd.R_lower (Kd.R_new' ho1 (Kd.R_lt (zR HO294))) (below_size (zB HB))); have n4_ := Aside0.mk (Kd.S_lower (Kd.S_new' ho2 (Kd.R_lt (zR HO294))) (below_size (zB HB))); have n5_ := Aside0.mk (blk_below (g := gb295) (o := .cells #[.int .i64 2, .slice Ao11 y292.length co11] 24 (0, 0)) (zK BK295) hb); have n6_ := Aside0.mk (below_step (zB HB) hb); clear HO294; clear HO298; clear BK295; clear HB; have HO294 := n0_; have HO298 := n1_; have HO301 := n2_; have HO304 := n3_; have HO307 := n4_; have BK295 := n5_; have HB := n6_; clear n0_ n1_ n2_ n3_ n4_ n5_ n6_; (try clear hb); (try clear hb2); (try clear hk); (try clear hi); (try clear ho0); (try clear ho1); (try clear ho2)) | ((with_reducible refine gate_dst (N := 2) rfl ?_); (try (refine gate_guard (by rfl) ?_; dsimp only)); refine box_event ?hg (N := 2) ?hd (cs := #[.slice none 0 0, .slice none 0 0, .slice none 0 0]) (t := 28) ?hr ?_; (case hd => rfl); (case hg => rfl); (case hr => first | (go_simp; done) | (go_simp; rfl)); intro gb309 hg w18 hbox hb; have n0_ := Aside0.mk (Kd.R_below (zR HO294) hb); have n1_ := Aside0.mk (Kd.R_below (zR HO298) hb); have n2_ := Aside0.mk (Kd.R_below (zR HO301) hb); have n3_ := Aside0.mk (Kd.R_below (zR HO304) hb); have n4_ := Aside0.mk (Kd.S_below (zS HO307) hb); have n5_ := Aside0.mk (blk_below (g := gb295) (o := .cells #[.int .i64 2, .slice Ao11 y292.length co11] 24 (0, 0)) (zK BK295) hb); have n6_ := Aside0.mk (below_step (zB HB) hb); have n7_ := Aside0.mk (hbox); have n8_ := Aside0.mk ((by rw [hg]; exact (below_size (zB HB)) : w.heap.size ≤ gb309)); have n9_ := Aside0.mk ((by rw [hg]; exact (below_size (zB HB)) : w.heap.size ≤ gb309)); have n10_ := Aside0.mk ((by rw [hg]; exact Nat.ne_of_lt (blk_lt (g := gb295) (o := .cells #[.int .i64 2, .slice Ao11 y292.length co11] 24 (0, 0)) (zK BK295)) : gb295 ≠ gb309)); have n11_ := Aside0.mk ((by rw [hg]; exact Nat.ne_of_gt (blk_lt (g := gb295) (o := .cells #[.int .i64 2, .slice Ao11 y292.length co11] 24 (0, 0)) (zK BK295)) : gb309 ≠ gb295)); clear HO294; clear HO298; clear HO301; clear HO304; clear HO307; clear BK295; clear HB; have HO294 := n0_; have HO298 := n1_; have HO301 := n2_; have HO304 := n3_; have HO307 := n4_; have BK295 := n5_; have HB := n6_; have BK309 := n7_; have GW309 := n8_; have GE309 := n9_; have NB295_309 := n10_; have NB309_295 := n11_; clear n0_ n1_ n2_ n3_ n4_ n5_ n6_ n7_ n8_ n9_ n10_ n11_; clear hb hbox hg; obtain ⟨Ao19, co19, eo19⟩ := Kd.R_slice HO301.out; subst eo19; have hnb20 := NB309_295.out; have hnc20 := NB295_309.out; have hcz21_0 : w18.cell? ⟨gb309, 0, none⟩ = some (.slice none 0 0) := (blk_cell BK309.out 0).trans rfl; have hcz21_1 : w18.cell? ⟨gb309, 1, none⟩ = some (.slice none 0 0) := (blk_cell BK309.out 1).trans rfl; have hcz21_2 : w18.cell? ⟨gb309, 2, none⟩ = some (.slice none 0 0) := (blk_cell BK309.out 2).trans rfl; have hfz21_0 := blk_frozen BK309.out 0; have hfz21_1 := blk_frozen BK309.out 1; have hfz21_2 := blk_frozen BK309.out 2; obtain ⟨Ao22, co22, eo22⟩ := Kd.R_slice HO304.out; subst eo22; obtain ⟨Ao23, co23, eo23⟩ := Kd.S_slice HO307.out; subst eo23) | ((with_reducible refine gate_dst (N := 19) rfl ?_); (try (refine gate_guard (by rfl) ?_; dsimp only)); refine Kd.R_lit k42 _ 42 ?hg (N := 19) ?hd (xs := ([(⟨0, 1⟩ : S42)] : List (S42))) (inner := [.int .i64 0, .int .i64 1]) (ok := fun _ => True) (okp := fun _ => True) ?hr ?hp (fun _ hk => hk) trivial (Below.refl _ _) (Nat.le_refl _) (by simp) ?_; (case hd => rfl); (case hg => rfl); (case hr => first | (go_simp; done) | (go_simp; rfl)); (case hp => exact (Reps.c2 (show Kd.M k42 _ _ _ (⟨0, 1⟩ : S42) [.int .i64 0, .int .i64 1] from (k42_mkM _ _ _ (⟨0, 1⟩ : S42) )) (Reps.none _ _))); intro v311 w24 ho25 hb hg_ hnew_; clear hg_ hnew_; (first | rw [← Ny310.out] at ho25 | (simp only [Int.reduceToNat] at ho25; rw [← Ny310.out] at ho25)); have n0_ := Aside0.mk (Kd.R_elder' (by (with_reducible repeat (first | apply Kd.R_alloc | apply Kd.R_drewN | apply Kd.R_drew)); exact (Kd.R_mono (Kd.R_far (p := ⟨gb309, 2, none⟩) (Kd.R_far (p := ⟨gb309, 1, none⟩) (Kd.R_far (p := ⟨gb309, 0, none⟩) (Kd.R_types HO294.out BK309.out (by decide)) (fun _ hk => hk.2) (.slice Ao19 t299.length co19)) (fun _ hk => hk.2) (.slice Ao22 t302.length co22)) (fun _ hk => hk.2) (.slice Ao23 t305.length co23)) (fun _ h_ => h_.1))) (Kd.R_base ho25) hb); have n1_ := Aside0.mk (Kd.R_below (by (with_reducible repeat (first | apply Kd.R_alloc | apply Kd.R_drewN | apply Kd.R_drew)); exact (Kd.R_mono (Kd.R_far (p := ⟨gb309, 2, none⟩) (Kd.R_far (p := ⟨gb309, 1, none⟩) (Kd.R_far (p := ⟨gb309, 0, none⟩) (Kd.R_types HO298.out BK309.out (by decide)) (fun _ hk => hk.2) (.slice Ao19 t299.length co19)) (fun _ hk => hk.2) (.slice Ao22 t302.length co22)) (fun _ hk => hk.2) (.slice Ao23 t305.length co23)) (fun _ h_ => h_.1))) hb); have n2_ := Aside0.mk (Kd.R_below (by (with_reducible repeat (first | apply Kd.R_alloc | apply Kd.R_drewN | apply Kd.R_drew)); exact (Kd.R_mono (Kd.R_far (p := ⟨gb309, 2, none⟩) (Kd.R_far (p := ⟨gb309, 1, none⟩) (Kd.R_far (p := ⟨gb309, 0, none⟩) (Kd.R_types HO301.out BK309.out (by decide)) (fun _ hk => hk.2) (.slice Ao19 t299.length co19)) (fun _ hk => hk.2) (.slice Ao22 t302.length co22)) (fun _ hk => hk.2) (.slice Ao23 t305.length co23)) (fun _ h_ => h_.1))) hb); have n3_ := Aside0.mk (Kd.R_elder' (by (with_reducible repeat (first | apply Kd.R_alloc | apply Kd.R_drewN | apply Kd.R_drew)); exact (Kd.R_mono (Kd.R_far (p := ⟨gb309, 2, none⟩) (Kd.R_far (p := ⟨gb309, 1, none⟩) (Kd.R_far (p := ⟨gb309, 0, none⟩) (Kd.R_types HO304.out BK309.out (by decide)) (fun _ hk => hk.2) (.slice Ao19 t299.length co19)) (fun _ hk => hk.2) (.slice Ao22 t302.length co22)) (fun _ hk => hk.2) (.slice Ao23 t305.length co23)) (fun _ h_ => h_.1))) (Kd.R_base ho25) hb); have n4_ := Aside0.mk (Kd.S_elder' (by (with_reducible repeat (first | apply Kd.S_alloc | apply Kd.S_drewN | apply Kd.S_drew)); exact (Kd.S_mono (Kd.S_far (p := ⟨gb309, 2, none⟩) (Kd.S_far (p := ⟨gb309, 1, none⟩) (Kd.S_far (p := ⟨gb309, 0, none⟩) (Kd.S_types HO307.out BK309.out (by decide)) (fun _ hk => hk.2) (.slice Ao19 t299.length co19)) (fun _ hk => hk.2) (.slice Ao22 t302.length co22)) (fun _ hk => hk.2) (.slice Ao23 t305.length co23)) (fun _ h_ => h_.1))) (Kd.R_base ho25) hb); have n5_ := Aside0.mk (Kd.R_lower (Kd.R_new' (Kd.R_new' ho25 (Kd.R_lt (by (with_reducible repeat (first | apply Kd.R_alloc | apply Kd.R_drewN | apply Kd.R_drew)); exact (Kd.R_mono (Kd.R_far (p := ⟨gb309, 2, none⟩) (Kd.R_far (p := ⟨gb309, 1, none⟩) (Kd.R_far (p := ⟨gb309, 0, none⟩) (Kd.R_types HO294.out BK309.out (by decide)) (fun _ hk => hk.2) (.slice Ao19 t299.length co19)) (fun _ hk => hk.2) (.slice Ao22 t302.length co22)) (fun _ hk => hk.2) (.slice Ao23 t305.length co23)) (fun _ h_ => h_.1))))) (Kd.R_lt (by (with_reducible repeat (first | apply Kd.R_alloc | apply Kd.R_drewN | apply Kd.R_drew)); exact (Kd.R_mono (Kd.R_far (p := ⟨gb309, 2, none⟩) (Kd.R_far (p := ⟨gb309, 1, none⟩) (Kd.R_far (p := ⟨gb309, 0, none⟩) (Kd.R_types HO304.out BK309.out (by decide)) (fun _ hk => hk.2) (.slice Ao19 t299.length co19)) (fun _ hk => hk.2) (.slice Ao22 t302.length co22)) (fun _ hk => hk.2) (.slice Ao23 t305.length co23)) (fun _ h_ => h_.1))))) (below_size (zB HB))); have n6_ := Aside0.mk (blk_below (g := gb295) (o := .cells #[.int .i64 2, .slice Ao11 y292.length co11] 24 (0, 0)) (by (with_reducible repeat (first | refine blk_drewN ?_ _ | refine blk_drew ?_ | refine blk_alloc ?_ _)); refine blk_far ?_ NB295_309.out _; (with_reducible repeat (first | refine blk_drewN ?_ _ | refine blk_drew ?_ | refine blk_alloc ?_ _)); refine blk_far ?_ NB295_309.out _; (with_reducible repeat (first | refine blk_drewN ?_ _ | refine blk_drew ?_ | refine blk_alloc ?_ _)); refine blk_far ?_ NB295_309.out _; (with_reducible repeat (first | refine blk_drewN ?_ _ | refine blk_drew ?_ | refine blk_alloc ?_ _)); exact BK295.out) hb); have n7_ := Aside0.mk (blk_below (g := gb309) (o := .cells #[.slice Ao19 t299.length co19, .slice Ao22 t302.length co22, .slice Ao23 t305.length co23] 28 (0, 0)) (by (with_reducible repeat (first | refine blk_drewN ?_ _ | refine blk_drew ?_ | refine blk_alloc ?_ _)); refine blk_put (cs := #[.slice Ao19 t299.length co19, .slice Ao22 t302.length co22, .slice none 0 0]) ?_ 2 _ rfl; (with_reducible repeat (first | refine blk_drewN ?_ _ | refine blk_drew ?_ | refine blk_alloc ?_ _)); refine blk_put (cs := #[.slice Ao19 t299.length co19, .slice none 0 0, .slice none 0 0]) ?_ 1 _ rfl; (with_reducible repeat (first | refine blk_drewN ?_ _ | refine blk_drew ?_ | refine blk_alloc ?_ _)); refine blk_put (cs := #[.slice none 0 0, .slice none 0 0, .slice none 0 0]) ?_ 0 _ rfl; (with_reducible repeat (first | refine blk_drewN ?_ _ | refine blk_drew ?_ | refine blk_alloc ?_ _)); exact BK309.out) hb); have n8_ := Aside0.mk (below_step (zB HB) hb); clear HO294; clear HO298; clear HO301; clear HO304; clear HO307; clear BK295; clear BK309; clear HB; have HO294 := n0_; have HO298 := n1_; have HO301 := n2_; have HO304 := n3_; have HO307 := n4_; have HO312 := n5_; have BK295 := n6_; have BK309 := n7_; have HB := n8_; clear n0_ n1_ n2_ n3_ n4_ n5_ n6_ n7_ n8_; clear hb ho25; obtain ⟨Ao26, co26, eo26⟩ := Kd.R_slice HO312.out; subst eo26) | (go_at_call 31; (with_reducible refine (deliberationnet_Pairs.calls k _ _ t302 _ _ y310 true _ ?side1 ?side2 ?side3 ?side4 A3.out).mono ?_); (case side1 => repeat (first | exact (Kd.R_reads' HO304.out).2.2 | (with_reducible refine Kd.C_alloc ?_ _) | (with_reducible refine Kd.C_drewN ?_ _) | (with_reducible refine Kd.C_drew ?_))); (case side2 => exact (Kd.R_reads' HO304.out).2.1); (case side3 => repeat (first | exact (Kd.R_reads' HO312.out).2.2 | (with_reducible refine Kd.C_alloc ?_ _) | (with_reducible refine Kd.C_drewN ?_ _) | (with_reducible refine Kd.C_drew ?_))); (case side4 => exact (Kd.R_reads' HO312.out).2.1); rintro e w' ⟨rfl, ⟨nd, rfl⟩⟩; have hcz27_0 : w24.cell? ⟨gb309, 0, none⟩ = some (.slice Ao19 t299.length co19) := (blk_cell BK309.out 0).trans rfl; have hcz27_1 : w24.cell? ⟨gb309, 1, none⟩ = some (.slice Ao22 t302.length co22) := (blk_cell BK309.out 1).trans rfl; have hcz27_2 : w24.cell? ⟨gb309, 2, none⟩ = some (.slice Ao23 t305.length co23) := (blk_cell BK309.out 2).trans rfl; have hfz27_0 := blk_frozen BK309.out 0; have hfz27_1 := blk_frozen BK309.out 1; have hfz27_2 := blk_frozen BK309.out 2; have p314 : 0 ≤ (0 : Int) := (by omega); have q314 : 0 < (t305.length : Int) := of_decide_eq_true (by first | (with_reducible assumption) | assumption); obtain ⟨ad314, A314_0, c314_0, e314, hx314_0, hl314_0, hi314_0⟩ := at_L2 (Kd.S_reads' HO307.out).2.2 0 p314 q314; cases e314; obtain ⟨ce314, hce314, hMe314, hcc314⟩ := Kd.S_get HO307.out [] 0 p314 (by first | exact q314 | exact of_decide_eq_true (by first | (with_reducible assumption) | assumption) | (have e_ := (Kd.S_reads' HO307.out).1; omega)); obtain ⟨ve314_0, rfl, ge314_0⟩ := hMe314; have hv314_0 := hcc314 0 _ rfl; rw [Nat.add_zero, show ((Kd.slice 42 k42)).sz = 1 from rfl, Nat.mul_one] at hv314_0; replace hv314_0 := Option.some.inj (hv314_0.symm.trans hx314_0); rw [hv314_0] at ge314_0; have HL314_0 := Aside0.mk (show Kd.R k42 42 _ _ _ _ (rd_L2 t305 0) from ge314_0); clear hv314_0 ge314_0; clear hcc314 hce314; have qi314 : (0 < t305.length) = True := eq_true (by omega); (try rw [show ((0 : Int)).toNat = 0 from rfl] at hx314_0); (try rw [Addr.add_zero'] at hx314_0); have HR314_0 := Aside0.mk hi314_0; have HC314_0 := Aside0.mk hl314_0; clear hi314_0 hl314_0; replace p314 := eq_true p314; replace q314 := eq_true q314; have hcz28_0 : w24.cell? ⟨gb295, 0, none⟩ = some (.int .i64 2) := (blk_cell BK295.out 0).trans rfl; have hcz28_1 : w24.cell? ⟨gb295, 1, none⟩ = some (.slice Ao11 y292.length co11) := (blk_cell BK295.out 1).trans rfl; have hfz28_0 := blk_frozen BK295.out 0; have hfz28_1 := blk_frozen BK295.out 1) | (go_at_call 17; (with_reducible refine (enforce_Check.calls k 2 _ _ y292 1 _ _ t299 _ _ t302 _ _ t305 _ ?side1 ?side2 ?side3 ?side4 ?side5 ?side6 ?side7 ?side8 ?side9 A8.out).mono ?_); (case side1 => repeat (first | exact (Kd.R_reads' HO294.out).2.2 | (with_reducible refine Kd.C_alloc ?_ _) | (with_reducible refine Kd.C_drewN ?_ _) | (with_reducible refine Kd.C_drew ?_))); (case side2 => exact (Kd.R_reads' HO294.out).2.1); (case side3 => repeat (first | exact (Kd.R_reads' HO301.out).2.2 | (with_reducible refine Kd.C_alloc ?_ _) | (with_reducible refine Kd.C_drewN ?_ _) | (with_reducible refine Kd.C_drew ?_))); (case side4 => exact (Kd.R_reads' HO301.out).2.1); (case side5 => repeat (first | exact (Kd.R_reads' HO304.out).2.2 | (with_reducible refine Kd.C_alloc ?_ _) | (with_reducible refine Kd.C_drewN ?_ _) | (with_reducible refine Kd.C_drew ?_))); (case side6 => exact (Kd.R_reads' HO304.out).2.1); (case side7 => repeat (first | exact (Kd.S_reads' HO307.out).2.2 | (with_reducible refine Kd.C_alloc ?_ _) | (with_reducible refine Kd.C_drewN ?_ _) | (with_reducible refine Kd.C_drew ?_))); (case side8 => exact (Kd.S_reads' HO307.out).2.1); (case side9 => exact TabT.now HTab.out (zB HB)); rintro e w29 ⟨rfl, hb⟩; have n0_ := Aside0.mk (Kd.R_below (zR HO294) hb); have n1_ := Aside0.mk (Kd.R_below (zR HO298) hb); have n2_ := Aside0.mk (Kd.R_below (zR HO301) hb); have n3_ := Aside0.mk (Kd.R_below (zR HO304) hb); have n4_ := Aside0.mk (Kd.S_below (zS HO307) hb); have n5_ := Aside0.mk (Kd.R_below (zR HO312) hb); have n6_ := Aside0.mk (Kd.R_below (zR HL314_0) hb); have n7_ := Aside0.mk (blk_below (g := gb295) (o := .cells #[.int .i64 2, .slice Ao11 y292.length co11] 24 (0, 0)) (zK BK295) hb); have n8_ := Aside0.mk (blk_below (g := gb309) (o := .cells #[.slice Ao19 t299.length co19, .slice Ao22 t302.length co22, .slice (some ad314) t305.length co23] 28 (0, 0)) (zK BK309) hb); have n9_ := Aside0.mk (Kd.C_below (zC HR314_0) hb); have n10_ := Aside0.mk (below_step (zB HB) hb); clear HO294; clear HO298; clear HO301; clear HO304; clear HO307; clear HO312; clear HL314_0; clear BK295; clear BK309; clear HR314_0; clear HB; have HO294 := n0_; have HO298 := n1_; have HO301 := n2_; have HO304 := n3_; have HO307 := n4_; have HO312 := n5_; have HL314_0 := n6_; have BK295 := n7_; have BK309 := n8_; have HR314_0 := n9_; have HB := n10_; clear n0_ n1_ n2_ n3_ n4_ n5_ n6_ n7_ n8_ n9_ n10_; (try clear hb); (try clear hb2); (try clear hk); (try clear hi)))
           go_ret
           exact ⟨by first | rfl | (simp [errW_none, errW_some] <;> rfl) | (simp [*, errW_none, errW_some] <;> rfl), zB HB⟩
         · rw [if_neg c7] at H
           have c7b0 : (((rd_L2 t305 0).length : Int) == 2) = false := beq_eq_false_iff_ne.mpr c7
           have c7b1 : (((rd_L2 t305 0).length : Int) != 2) = true := bne_iff_ne.mpr c7
           exact absurd H (by simp_all)
       · rw [if_neg c6] at H
         exact absurd H (by simp)
     · rw [if_neg c5] at H
       have c5b0 : ((t305.length : Int) == 1) = false := beq_eq_false_iff_ne.mpr c5
       have c5b1 : ((t305.length : Int) != 1) = true := bne_iff_ne.mpr c5
       exact absurd H (by simp_all)
   · replace c4 := Bool.eq_false_iff.mpr c4
     subst c4
     have H1 : (some false) = some true := by rw [if_neg (show ¬ (false = true) by decide)] at H; exact H
     clear H
     have H := H1
     clear H1
     exact absurd H (by simp_all)
 · rw [if_neg c2] at H
   have c2b0 : (t308 == 0) = false := beq_eq_false_iff_ne.mpr c2
   have c2b1 : (t308 != 0) = true := bne_iff_ne.mpr c2
   exact absurd H (by simp_all)
end Go.Proofs.YtjmdlmogdbhdhaaDoor.P
namespace Go.Proofs.YtjmdlmogdbhdhaaDoor.P
open Go.RowKit Go.Proofs.YtjmdlmogdbhdhaaDoorW.PrintWords Go.Proofs.YtjmdlmogdbhdhaaDoorW.PrintLast Go.Proofs.YtjmdlmogdbhdhaaDoorW.PrintMore
attribute [local go_sem] max2_int min2_int max_two min_two max_three min_three max_four min_four   -- for this text's walks alone
set_option linter.unusedVariables false
set_option linter.unusedSimpArgs false
/-- A state of type 64 at block g of W; what its slices lead to came in by w0. -/
def IsS64 (w0 W : World) (g : Nat) (f0 : List Int) (f1 : Int) : Prop := ∃ A0 c0, W.heap[g]? = some (.cells #[.slice A0 f0.length c0, .int .i64 f1] 64 (0, 0)) ∧ w0.heap.size ≤ g ∧ Kd.C (Kd.int .i64) w0 A0 f0.length f0
theorem IsS64.grown {w0 W : World} {g : Nat} {f0 : List Int} {f1 : Int} {W1 : World} {row : Option Nat} (h : IsS64 w0 W g f0 f1) (hw : W.grownBy W1 row) (hne : some g ≠ row) : IsS64 w0 W1 g f0 f1 := by
 obtain ⟨A0, c0, hb, hg, hr0⟩ := h
 exact ⟨A0, c0, blk_grown hb hw hne, hg, hr0⟩
theorem IsS64.own_neN {w0 W : World} {g : Nat} {f0 : List Int} {f1 : Int} {α : Type} {d : Kd α} {e : Nat} {base : Nat} {ok : Nat → Prop} {v : Value} {xs : List α} (h : IsS64 w0 W g f0 f1) (ho : Kd.N d e W base ok v xs) (ht : e ≠ 64) : some g ≠ v.ownBlock := by
 obtain ⟨A0, c0, hb, hg, hr0⟩ := h
 exact Kd.N_ne ho hb ht
theorem IsS64.fresh {w0 W : World} {g : Nat} {f0 : List Int} {f1 : Int} (h : IsS64 w0 W g f0 f1) : ∀ k, W.heap.size ≤ k → k ≠ g := by
 obtain ⟨A0, c0, hb, hg, hr0⟩ := h
 exact Kd.freshB hb
theorem IsS64.kept {w0 W : World} {g : Nat} {f0 : List Int} {f1 : Int} {W1 : World} {S : Nat → Prop} (h : IsS64 w0 W g f0 f1) (hk : Kept W W1 S) (hne : ¬ S g) : IsS64 w0 W1 g f0 f1 := by
 obtain ⟨A0, c0, hb, hg, hr0⟩ := h
 exact ⟨A0, c0, blk_kept hb hk hne, hg, hr0⟩
theorem IsS64.below {w0 W : World} {g : Nat} {f0 : List Int} {f1 : Int} {W1 : World} (h : IsS64 w0 W g f0 f1) (hw : Below W.heap.size W W1) : IsS64 w0 W1 g f0 f1 := h.grown (grown_of_below hw none) (by simp)
theorem IsS64.alloc {w0 W : World} {g : Nat} {f0 : List Int} {f1 : Int} (h : IsS64 w0 W g f0 f1) (o : Obj) : IsS64 w0 (W.alloc o) g f0 f1 := h.below (below_alloc (Below.refl _ _) o)
theorem IsS64.drewN {w0 W : World} {g : Nat} {f0 : List Int} {f1 : Int} (h : IsS64 w0 W g f0 f1) (m : Nat) : IsS64 w0 (W.drewN m) g f0 f1 := h
theorem IsS64.drew {w0 W : World} {g : Nat} {f0 : List Int} {f1 : Int} (h : IsS64 w0 W g f0 f1) : IsS64 w0 W.drew g f0 f1 := h
theorem IsS64.at_ {w0 W : World} {g : Nat} {f0 : List Int} {f1 : Int} {w' : World} {m : Nat} (hq : W.drewN m = w') (h : IsS64 w0 W g f0 f1) : IsS64 w0 w' g f0 f1 := by subst hq; exact IsS64.drewN h m
theorem IsS64.apart {w0 W : World} {g : Nat} {f0 : List Int} {f1 : Int} {α : Type} {d : Kd α} {e : Nat} {base : Nat} {ok : Nat → Prop} {v : Value} {xs : List α} (h : IsS64 w0 W g f0 f1) (ho : d.R e W base ok v xs) (ht : ∀ q, q ∈ e :: d.E → q ≠ 64) : d.R e W base (fun k => ok k ∧ k ≠ g) v xs := by
 obtain ⟨A0, c0, hb, hg, hr0⟩ := h
 exact Kd.R_types ho hb ht
theorem IsS64.own_ne {w0 W : World} {g : Nat} {f0 : List Int} {f1 : Int} {α : Type} {d : Kd α} {e : Nat} {base : Nat} {ok : Nat → Prop} {v : Value} {xs : List α} (h : IsS64 w0 W g f0 f1) (ho : d.R e W base ok v xs) (ht : e ≠ 64) : some g ≠ v.ownBlock := by
 obtain ⟨A0, c0, hb, hg, hr0⟩ := h
 exact Kd.R_ne ho hb ht
theorem IsS64.apartQ {w0 W : World} {g : Nat} {f0 : List Int} {f1 : Int} {α : Type} {d : Kd α} {e : Nat} {base : Nat} {ok : Nat → Prop} {v : Value} {xs : List α} (h : IsS64 w0 W g f0 f1) (ho : d.Q e W base ok v xs) (ht : ∀ q, q ∈ e :: d.E → q ≠ 64) : d.Q e W base (fun k => ok k ∧ k ≠ g) v xs := by
 obtain ⟨A0, c0, hb, hg, hr0⟩ := h
 exact Kd.Q_types ho hb ht
theorem IsS64.own_neQ {w0 W : World} {g : Nat} {f0 : List Int} {f1 : Int} {α : Type} {d : Kd α} {e : Nat} {base : Nat} {ok : Nat → Prop} {v : Value} {xs : List α} (h : IsS64 w0 W g f0 f1) (ho : d.Q e W base ok v xs) (ht : e ≠ 64) : some g ≠ v.ownBlock := by
 obtain ⟨A0, c0, hb, hg, hr0⟩ := h
 exact Kd.Q_ne ho hb ht
theorem IsS64.apartS {w0 W : World} {g : Nat} {f0 : List Int} {f1 : Int} {α : Type} {d : Kd α} {e : Nat} {base : Nat} {ok : Nat → Prop} {v : Value} {xs : List α} (h : IsS64 w0 W g f0 f1) (ho : d.S e W base ok v xs) (ht : ∀ q, q ∈ e :: d.E → q ≠ 64) : d.S e W base (fun k => ok k ∧ k ≠ g) v xs := by
 obtain ⟨A0, c0, hb, hg, hr0⟩ := h
 exact Kd.S_types ho hb ht
theorem IsS64.own_neS {w0 W : World} {g : Nat} {f0 : List Int} {f1 : Int} {α : Type} {d : Kd α} {e : Nat} {base : Nat} {ok : Nat → Prop} {v : Value} {xs : List α} (h : IsS64 w0 W g f0 f1) (ho : d.S e W base ok v xs) (ht : e ≠ 64) : some g ≠ v.ownBlock := by
 obtain ⟨A0, c0, hb, hg, hr0⟩ := h
 exact Kd.S_ne ho hb ht
theorem IsS64.lt {w0 W : World} {g : Nat} {f0 : List Int} {f1 : Int} (h : IsS64 w0 W g f0 f1) : g < W.heap.size := by
 obtain ⟨A0, c0, hb, hg, hr0⟩ := h
 exact blk_lt hb
theorem IsS64.ge {w0 W : World} {g : Nat} {f0 : List Int} {f1 : Int} (h : IsS64 w0 W g f0 f1) : w0.heap.size ≤ g := by
 obtain ⟨A0, c0, hb, hg, hr0⟩ := h
 exact hg
theorem IsS64.ne_blk {w0 W : World} {g : Nat} {f0 : List Int} {f1 : Int} {a : Nat} {cs : Array Value} {t : TypeId} {fr : Nat × Nat} (h : IsS64 w0 W g f0 f1) (hb2 : W.heap[a]? = some (.cells cs t fr)) (ht : t ≠ 64) : g ≠ a := by
 obtain ⟨A0, c0, hb, hg, hr0⟩ := h
 rintro rfl
 rw [hb] at hb2
 injection hb2 with hb2
 injection hb2 with _ ht2
 exact ht ht2.symm
theorem IsS64.far {w0 W : World} {g : Nat} {f0 : List Int} {f1 : Int} {p : Addr} (h : IsS64 w0 W g f0 f1) (hne : g ≠ p.block) (u : Value) : IsS64 w0 (W.setCell p u) g f0 f1 := by
 obtain ⟨A0, c0, hb, hg, hr0⟩ := h
 exact ⟨A0, c0, blk_far hb hne u, hg, hr0⟩
theorem cellS64_0 {W : World} {g : Nat} {A0 : Option Addr} {c0 : Nat} {f0 : List Int} {f1 : Int} (h : W.heap[g]? = some (.cells #[.slice A0 f0.length c0, .int .i64 f1] 64 (0, 0))) : W.cell? ⟨g, 0, none⟩ = some (.slice A0 f0.length c0) := (blk_cell h 0).trans rfl
theorem cellS64_1 {W : World} {g : Nat} {A0 : Option Addr} {c0 : Nat} {f0 : List Int} {f1 : Int} (h : W.heap[g]? = some (.cells #[.slice A0 f0.length c0, .int .i64 f1] 64 (0, 0))) : W.cell? ⟨g, 1, none⟩ = some (.int .i64 f1) := (blk_cell h 1).trans rfl
theorem IsS64.set_1 {w0 W : World} {g : Nat} {f0 : List Int} {f1 : Int} (h : IsS64 w0 W g f0 f1) (x : Int) : IsS64 w0 (W.setCell ⟨g, 1, none⟩ (.int .i64 x)) g f0 x := by
 obtain ⟨A0, c0, hb, hg, hr0⟩ := h
 exact ⟨A0, c0, by simpa using blk_set hb 1 (.int .i64 x), hg, hr0⟩
theorem IsS64.new (w0 W : World) (A0 : Option Addr) (c0 : Nat) (f0 : List Int) (f1 : Int) (hB : Below w0.heap.size w0 W) (hr0 : Kd.C (Kd.int .i64) w0 A0 f0.length f0) : IsS64 w0 (W.alloc (.cells #[.slice A0 f0.length c0, .int .i64 f1] 64)) W.heap.size f0 f1 := ⟨A0, c0, by simpa using heap_alloc_new W _, hB.size, hr0⟩
/-! ### deliberationkeep_New: function 11 -/
def deliberationkeep_New.f (l0 : List Int) : Option (List Int × Int) := if 0 ≤ (mn (l0.length : Int) 2000) then (if (mn (l0.length : Int) 2000) ≤ (l0.length : Int) then (some (l0.take ((mn (l0.length : Int) 2000) : Int).toNat, 0)) else (none)) else (none)
set_option maxHeartbeats 8000000 in
set_option maxRecDepth 100000 in
theorem deliberationkeep_New.calls (A0 : Option Addr) (c0 : Nat) (l0 : List Int) (r1 : List Int) (r2 : Int) (w0 w : World) (hB : Below w0.heap.size w0 w) (hr0 : Kd.C (Kd.int .i64) w0 A0 l0.length l0) (hc0 : l0.length ≤ c0) (h : deliberationkeep_New.f l0 = some (r1, r2)) :
 Calls Tryd.prog 11 #[.slice A0 l0.length c0] w fun e w' => ∃ g_ : Nat, e = .returned (.pointer (some ⟨g_, 0, none⟩)) ∧ IsS64 w0 w' g_ r1 r2 ∧ Below w0.heap.size w0 w' ∧ Below w.heap.size w w' := by
 have hu64 := Tryd.underlying64
 have HR0 := Aside0.mk hr0
 have HC0 := Aside0.mk hc0
 clear hr0 hc0
 have HBW := Aside0.mk (Below.refl w.heap.size w)
 have HW0 := Aside0.mk hB.size
 have HB := Aside0.mk hB
 clear hB
 have H : (if 0 ≤ (mn (l0.length : Int) 2000) then (if (mn (l0.length : Int) 2000) ≤ (l0.length : Int) then (some (l0.take ((mn (l0.length : Int) 2000) : Int).toNat, 0)) else (none)) else (none)) = some (r1, r2) := h
 clear h
 obtain ⟨ji2, hji2⟩ : ∃ j_ : Int, (mn (l0.length : Int) 2000) = j_ := ⟨_, rfl⟩
 replace H : (if 0 ≤ (ji2) then (if (ji2) ≤ (l0.length : Int) then (some (l0.take ((ji2) : Int).toNat, 0)) else (none)) else (none)) = some (r1, r2) := by first | (rw [hji2] at H; exact H) | (simp only [hji2] at H ⊢; exact H)
 (try (have hji2h : ji2 ≤ 2000 := by (rw [← hji2]; unfold mn; (repeat' split) <;> omega)))
 (try (have hji2g : ji2 ≤ 64 := by omega))
 (try (have hji2l : 0 ≤ ji2 := by (rw [← hji2]; unfold mn; (repeat' split) <;> omega)))
 (try (have hji2m : 0 ≤ ji2 := by omega))
 have hji2_ : (if 2000 < (l0.length : Int) then 2000 else (l0.length : Int)) = ji2 := hji2
 by_cases c3 : 0 ≤ (ji2)
 · rw [if_pos c3] at H
   have c3b0 := eq_true c3
   have c3b1 : decide (0 ≤ (ji2)) = true := decide_eq_true c3
   clear c3
   by_cases c4 : (ji2) ≤ (l0.length : Int)
   · rw [if_pos c4] at H
     have c4b0 := eq_true c4
     have c4b1 : decide ((ji2) ≤ (l0.length : Int)) = true := decide_eq_true c4
     clear c4
     simp only [Option.some.injEq, Prod.mk.injEq] at H
     obtain ⟨rfl, rfl⟩ := H
     obtain ⟨i05, hi05, _, hsz5, _⟩ := info_parts info3
     obtain ⟨hcut5, hA5, hC5⟩ := print_take_of (P := Tryd.prog) (Value.int .i64) 0 25 3 .i64 Tryd.underlying25 hi05 hsz5 A0 c0 l0 (ji2) (of_decide_eq_true (by first | (with_reducible assumption) | assumption)) (of_decide_eq_true (by first | (with_reducible assumption) | assumption)) HC0.out
     have HR316 := Aside0.mk (Kd.C_of_reads (h1 := fun _ => rfl) (hA5 _ (Kd.reads_of_C HR0.out)))
     have HC316 := Aside0.mk hC5
     clear hA5 hC5 hi05 hsz5
     go_enter Tryd.func11, Tryd.ntmps11
     go_wp2_with (first | ((with_reducible refine gate_dst (N := 9) rfl ?_); refine box_event ?hg (N := 9) ?hd (cs := #[.slice A0 (l0.take ((ji2) : Int).toNat).length c0, .int .i64 0]) (t := 64) ?hr ?_; (case hd => rfl); (case hg => rfl); (case hr => first | (go_simp; done) | (go_simp; rfl)); intro gb317 hg w6 hbox hb; have n0_ := Aside0.mk (below_step HBW.out hb); have n1_ := Aside0.mk (below_step (zB HB) hb); have n2_ := Aside0.mk (hbox); have n3_ := Aside0.mk ((by rw [hg]; exact (below_size (zB HBW)) : w.heap.size ≤ gb317)); have n4_ := Aside0.mk ((Nat.le_trans HW0.out (by rw [hg]; exact (below_size (zB HBW)) : w.heap.size ≤ gb317) : w0.heap.size ≤ gb317)); clear HBW; clear HB; have HBW := n0_; have HB := n1_; have BK317 := n2_; have GW317 := n3_; have GE317 := n4_; clear n0_ n1_ n2_ n3_ n4_; clear hb hbox hg))
     go_ret
     exact ⟨_, rfl, (show IsS64 w0 _ gb317 (l0.take ((ji2) : Int).toNat) 0 from ⟨_, _, by (with_reducible repeat (first | refine blk_drewN ?_ _ | refine blk_drew ?_ | refine blk_alloc ?_ _)); exact BK317.out, GE317.out, HR316.out⟩), zB HB, zB HBW⟩
   · rw [if_neg c4] at H
     exact absurd H (by simp)
 · rw [if_neg c3] at H
   exact absurd H (by simp)
end Go.Proofs.YtjmdlmogdbhdhaaDoor.P
namespace Go.Proofs.YtjmdlmogdbhdhaaDoor.P
open Go.RowKit Go.Proofs.YtjmdlmogdbhdhaaDoorW.PrintWords Go.Proofs.YtjmdlmogdbhdhaaDoorW.PrintLast Go.Proofs.YtjmdlmogdbhdhaaDoorW.PrintMore
attribute [local go_sem] max2_int min2_int max_two min_two max_three min_three max_four min_four   -- for this text's walks alone
set_option linter.unusedVariables false
set_option linter.unusedSimpArgs false
/-! ### deliberationkeep_Mod: function 35 -/
def deliberationkeep_Mod.f (a0 : Int) (a1 : Int) : Option (Int) := if a1 < 1 then (some 0) else (if a1 = 0 then (none) else (if (Int.tmod a0 a1) < 0 then (some (wrap64 ((Int.tmod a0 a1) + a1))) else (some (Int.tmod a0 a1))))
set_option maxHeartbeats 8000000 in
set_option maxRecDepth 100000 in
theorem deliberationkeep_Mod.calls (a0 : Int) (a1 : Int) (r : Int) (w : World) (h : deliberationkeep_Mod.f a0 a1 = some r) :
 Calls Tryd.prog 35 #[.int .i64 a0, .int .i64 a1] w fun e w' => e = .returned (.int .i64 r) ∧ Drawn0 w w' := by
 have H : (if a1 < 1 then (some 0) else (if a1 = 0 then (none) else (if (Int.tmod a0 a1) < 0 then (some (wrap64 ((Int.tmod a0 a1) + a1))) else (some (Int.tmod a0 a1))))) = some r := h
 clear h
 by_cases c3 : a1 < 1
 · rw [if_pos c3] at H
   have c3b0 : decide (a1 < 1) = true := decide_eq_true c3
   clear c3
   obtain rfl := Option.some.inj H
   go_enter Tryd.func35, Tryd.ntmps35
   go_wp2
   go_ret
   exact ⟨by first | rfl | (simp; done) | (simp [*]; done), by repeat (first | exact Drawn0.refl _ | apply Drawn0.step)⟩
 · rw [if_neg c3] at H
   have c3b0 : decide (a1 < 1) = false := decide_eq_false c3
   clear c3
   by_cases c4 : a1 = 0
   · rw [if_pos c4] at H
     exact absurd H (by simp)
   · rw [if_neg c4] at H
     have c4b0 : (a1 == 0) = false := beq_eq_false_iff_ne.mpr c4
     have c4b1 : (a1 != 0) = true := bne_iff_ne.mpr c4
     by_cases c5 : (Int.tmod a0 a1) < 0
     · rw [if_pos c5] at H
       have c5b0 : decide ((Int.tmod a0 a1) < 0) = true := decide_eq_true c5
       clear c5
       obtain rfl := Option.some.inj H
       go_enter Tryd.func35, Tryd.ntmps35
       go_wp2
       go_ret
       exact ⟨by first | rfl | (simp; done) | (simp [*]; done), by repeat (first | exact Drawn0.refl _ | apply Drawn0.step)⟩
     · rw [if_neg c5] at H
       have c5b0 : decide ((Int.tmod a0 a1) < 0) = false := decide_eq_false c5
       clear c5
       obtain rfl := Option.some.inj H
       go_enter Tryd.func35, Tryd.ntmps35
       go_wp2
       go_ret
       exact ⟨by first | rfl | (simp; done) | (simp [*]; done), by repeat (first | exact Drawn0.refl _ | apply Drawn0.step)⟩
end Go.Proofs.YtjmdlmogdbhdhaaDoor.P
namespace Go.Proofs.YtjmdlmogdbhdhaaDoor.P
open Go.RowKit Go.Proofs.YtjmdlmogdbhdhaaDoorW.PrintWords Go.Proofs.YtjmdlmogdbhdhaaDoorW.PrintLast Go.Proofs.YtjmdlmogdbhdhaaDoorW.PrintMore
attribute [local go_sem] max2_int min2_int max_two min_two max_three min_three max_four min_four   -- for this text's walks alone
set_option linter.unusedVariables false
set_option linter.unusedSimpArgs false
/-! ### deliberationkeep_Src_Raw: function 36 -/
def deliberationkeep_Src_Raw.f (s0_0 : List Int) (s0_1 : Int) : Option (Int × Int) := if s0_1 ≥ (s0_0.length : Int) then (some (0, s0_1)) else (if 0 ≤ (wrap64 ((wrap64 (s0_1 + 1)) - 1)) then (if (wrap64 ((wrap64 (s0_1 + 1)) - 1)) < (s0_0.length : Int) then (some (rd s0_0 (wrap64 ((wrap64 (s0_1 + 1)) - 1)), wrap64 (s0_1 + 1))) else (none)) else (none))
set_option maxHeartbeats 8000000 in
set_option maxRecDepth 100000 in
theorem deliberationkeep_Src_Raw.calls (g : Nat) (s0_0 : List Int) (s0_1 : Int) (r1 : Int) (r2 : Int) (w0 w : World) (hI : IsS64 w0 w g s0_0 s0_1) (hB : Below w0.heap.size w0 w) (h : deliberationkeep_Src_Raw.f s0_0 s0_1 = some (r1, r2)) :
 Calls Tryd.prog 36 #[.pointer (some ⟨g, 0, none⟩)] w fun e w' => e = .returned (.int .i64 r1) ∧ IsS64 w0 w' g s0_0 r2 ∧ Below w0.heap.size w0 w' ∧ KeepBut w w' g none := by
 have HI0 := Aside0.mk hI
 have HK := Aside0.mk (KeepBut.refl w g none)
 have HL := Aside0.mk hB.size
 clear hI
 have HW0 := Aside0.mk hB.size
 have HB := Aside0.mk hB
 clear hB
 have H : (if s0_1 ≥ (s0_0.length : Int) then (some (0, s0_1)) else (if 0 ≤ (wrap64 ((wrap64 (s0_1 + 1)) - 1)) then (if (wrap64 ((wrap64 (s0_1 + 1)) - 1)) < (s0_0.length : Int) then (some (rd s0_0 (wrap64 ((wrap64 (s0_1 + 1)) - 1)), wrap64 (s0_1 + 1))) else (none)) else (none))) = some (r1, r2) := h
 clear h
 by_cases c2 : s0_1 ≥ (s0_0.length : Int)
 · rw [if_pos c2] at H
   have c2b0 : decide ((s0_0.length : Int) ≤ s0_1) = true := decide_eq_true c2
   clear c2
   simp only [Option.some.injEq, Prod.mk.injEq] at H
   obtain ⟨rfl, rfl⟩ := H
   obtain ⟨ASz3_0, cSz3_0, HGz3, hgz3, HSz3_0⟩ := HI0.out
   have hcz3_0 := cellS64_0 HGz3
   have hcz3_1 := cellS64_1 HGz3
   have hfz3_1 := blk_frozen HGz3 1
   clear HGz3 hgz3
   go_enter Tryd.func36, Tryd.ntmps36
   go_wp2
   repeat (go_quiet (fail); try go_wp2)
   go_ret
   exact ⟨by first | rfl | (simp [errW_none, errW_some] <;> rfl) | (simp [*, errW_none, errW_some] <;> rfl), by repeat (first | (with_reducible first | exact HI0.out | apply IsS64.alloc | apply IsS64.drewN | apply IsS64.drew | apply IsS64.set_1) | exact HI0.out), by repeat (first | (with_reducible first | exact HB.out | apply below_alloc | apply pw_below_drewN | apply below_drew1 | refine below_set ?_ (IsS64.ge HI0.out)) | exact HB.out), by repeat (first | (with_reducible first | exact HK.out | apply KeepBut.set_ | apply keep_drewN | apply keep_drew | apply keep_alloc) | exact HK.out)⟩
 · rw [if_neg c2] at H
   have c2b0 : decide ((s0_0.length : Int) ≤ s0_1) = false := decide_eq_false c2
   clear c2
   obtain ⟨ji4, hji4⟩ : ∃ j_ : Int, (wrap64 ((wrap64 (s0_1 + 1)) - 1)) = j_ := ⟨_, rfl⟩
   replace H : (if 0 ≤ (ji4) then (if (ji4) < (s0_0.length : Int) then (some (rd s0_0 (ji4), wrap64 (s0_1 + 1))) else (none)) else (none)) = some (r1, r2) := by first | (rw [hji4] at H; exact H) | (simp only [hji4] at H ⊢; exact H)
   have hji4w : (IntKind.i64.wrap ((wrap64 (s0_1 + 1)) - 1)) = ji4 := (i64_w _).trans hji4
   by_cases c5 : 0 ≤ (ji4)
   · rw [if_pos c5] at H
     have c5b0 : decide (0 ≤ (ji4)) = true := decide_eq_true c5
     clear c5
     by_cases c6 : (ji4) < (s0_0.length : Int)
     · rw [if_pos c6] at H
       have c6b0 : decide ((ji4) < (s0_0.length : Int)) = true := decide_eq_true c6
       clear c6
       simp only [Option.some.injEq, Prod.mk.injEq] at H
       obtain ⟨rfl, rfl⟩ := H
       obtain ⟨ASz7_0, cSz7_0, HGz7, hgz7, HSz7_0⟩ := HI0.out
       have hcz7_0 := cellS64_0 HGz7
       have hcz7_1 := cellS64_1 HGz7
       have hfz7_1 := blk_frozen HGz7 1
       clear HGz7 hgz7
       have p318 : 0 ≤ ((ji4) : Int) := of_decide_eq_true (by first | (with_reducible assumption) | assumption)
       have q318 : (ji4) < (s0_0.length : Int) := of_decide_eq_true (by first | (with_reducible assumption) | assumption)
       obtain ⟨ad318, e318, hx318_0⟩ := Kd.at_int HSz7_0 (ji4) p318 q318
       cases e318
       have hn318_0 : ad318.block ≠ g := Nat.ne_of_lt (Nat.lt_of_lt_of_le (by have := World.block_lt_of_cell? _ _ hx318_0; first | rwa [add_block] at this | exact this) (IsS64.ge HI0.out))
       replace hx318_0 := pw_cell_below HB.out hx318_0
       replace hx318_0 := (cell_far (p := ⟨g, 1, none⟩) (by first | (rw [add_block]; exact hn318_0) | (show (Addr.add _ _).block ≠ _; rw [add_block]; exact hn318_0) | exact hn318_0) (.int .i64 (wrap64 (s0_1 + 1)))).trans hx318_0
       (try have hy318_0 := fun (n_ : Nat) => (show (((w.drewN n_).setCell ⟨g, 1, none⟩ (.int .i64 (wrap64 (s0_1 + 1))))).cell? _ = some _ from hx318_0))
       clear hn318_0
       replace p318 := eq_true p318
       replace q318 := eq_true q318
       go_enter Tryd.func36, Tryd.ntmps36
       go_wp2
       repeat (go_quiet (fail); try go_wp2)
       go_ret
       exact ⟨by first | rfl | (simp [errW_none, errW_some] <;> rfl) | (simp only [← hji4]; first | rfl | (simp [errW_none, errW_some] <;> rfl)) | (simp [*, errW_none, errW_some] <;> rfl), by repeat (first | (with_reducible first | exact HI0.out | apply IsS64.alloc | apply IsS64.drewN | apply IsS64.drew | apply IsS64.set_1) | exact HI0.out), by repeat (first | (with_reducible first | exact HB.out | apply below_alloc | apply pw_below_drewN | apply below_drew1 | refine below_set ?_ (IsS64.ge HI0.out)) | exact HB.out), by repeat (first | (with_reducible first | exact HK.out | apply KeepBut.set_ | apply keep_drewN | apply keep_drew | apply keep_alloc) | exact HK.out)⟩
     · rw [if_neg c6] at H
       exact absurd H (by simp)
   · rw [if_neg c5] at H
     exact absurd H (by simp)
end Go.Proofs.YtjmdlmogdbhdhaaDoor.P
namespace Go.Proofs.YtjmdlmogdbhdhaaDoor.P
open Go.RowKit Go.Proofs.YtjmdlmogdbhdhaaDoorW.PrintWords Go.Proofs.YtjmdlmogdbhdhaaDoorW.PrintLast Go.Proofs.YtjmdlmogdbhdhaaDoorW.PrintMore
attribute [local go_sem] max2_int min2_int max_two min_two max_three min_three max_four min_four   -- for this text's walks alone
set_option linter.unusedVariables false
set_option linter.unusedSimpArgs false
/-! ### deliberationkeep_Src_N: function 16 -/
def deliberationkeep_Src_N.f (s0_0 : List Int) (s0_1 : Int) (a1 : Int) : Option (Int × Int) := (deliberationkeep_Src_Raw.f s0_0 s0_1).bind fun bt319 => ((deliberationkeep_Mod.f bt319.1 a1).bind fun t321 => (some (t321, bt319.2)))
set_option maxHeartbeats 8000000 in
set_option maxRecDepth 100000 in
theorem deliberationkeep_Src_N.calls (g : Nat) (s0_0 : List Int) (s0_1 : Int) (a1 : Int) (r1 : Int) (r2 : Int) (w0 w : World) (hI : IsS64 w0 w g s0_0 s0_1) (hB : Below w0.heap.size w0 w) (h : deliberationkeep_Src_N.f s0_0 s0_1 a1 = some (r1, r2)) :
 Calls Tryd.prog 16 #[.pointer (some ⟨g, 0, none⟩), .int .i64 a1] w fun e w' => e = .returned (.int .i64 r1) ∧ IsS64 w0 w' g s0_0 r2 ∧ Below w0.heap.size w0 w' ∧ KeepBut w w' g none := by
 have HI0 := Aside0.mk hI
 have HK := Aside0.mk (KeepBut.refl w g none)
 have HL := Aside0.mk hB.size
 clear hI
 have HW0 := Aside0.mk hB.size
 have HB := Aside0.mk hB
 clear hB
 have H : ((deliberationkeep_Src_Raw.f s0_0 s0_1).bind fun bt319 => ((deliberationkeep_Mod.f bt319.1 a1).bind fun t321 => (some (t321, bt319.2)))) = some (r1, r2) := h
 clear h
 replace H := Option.bind_eq_some_iff.mp H
 obtain ⟨⟨t319, t320⟩, A30, H⟩ := H
 replace H : ((deliberationkeep_Mod.f t319 a1).bind fun t321 => (some (t321, t320))) = some (r1, r2) := H
 have A3 := Aside0.mk A30
 clear A30
 replace H := Option.bind_eq_some_iff.mp H
 obtain ⟨t321, A40, H⟩ := H
 replace H : (some (t321, t320)) = some (r1, r2) := H
 have A4 := Aside0.mk A40
 clear A40
 simp only [Option.some.injEq, Prod.mk.injEq] at H
 obtain ⟨rfl, rfl⟩ := H
 go_enter Tryd.func16, Tryd.ntmps16
 go_wp2_with (first | ((with_reducible refine gate_callee (f := 36) rfl ?_); refine goesL_ (some 6) rfl rfl Tryd.func36 (by kernel_rfl) rfl #[.pointer (some ⟨g, 0, none⟩)] rfl (by (try simp only [List.map_toArray, List.map_cons, List.map_nil]); first | done | rfl | (simp only [List.length_drop, List.length_take]; rfl)) ?_; (with_reducible refine (deliberationkeep_Src_Raw.calls g s0_0 s0_1 t319 t320 w0 _ ?side1 ?side2 A3.out).mono ?_); (case side1 => repeat (first | (with_reducible first | exact HI0.out | apply IsS64.alloc | apply IsS64.drewN | apply IsS64.drew | apply IsS64.set_1) | exact HI0.out)); (case side2 => repeat (first | (with_reducible first | exact HB.out | apply below_alloc | apply pw_below_drewN | apply below_drew1 | refine below_set ?_ (IsS64.ge HI0.out)) | exact HB.out)); rintro e w5 ⟨rfl, hi, hb, hk⟩; refine ⟨_, rfl, ?_⟩; have n0_ := Aside0.mk (KeepBut.trans (by repeat (first | (with_reducible first | exact HK.out | apply KeepBut.set_ | apply keep_drewN | apply keep_drew | apply keep_alloc) | exact HK.out)) hk (.inl rfl)); have n1_ := Aside0.mk (hb); have n2_ := Aside0.mk (hi); clear HK; clear HB; clear HI0; have HK := n0_; have HB := n1_; have HI0 := n2_; clear n0_ n1_ n2_; (try clear hb); (try clear hb2); (try clear hk); (try clear hi)) | ((with_reducible refine gate_callee (f := 35) rfl ?_); refine goesL_ (some 8) rfl rfl Tryd.func35 (by kernel_rfl) rfl #[.int .i64 t319, .int .i64 a1] rfl (by (try simp only [List.map_toArray, List.map_cons, List.map_nil]); first | done | rfl | (simp only [List.length_drop, List.length_take]; rfl)) ?_; (with_reducible refine (deliberationkeep_Mod.calls t319 a1 t321 _ A4.out).mono ?_); rintro e w' ⟨rfl, ⟨nd, rfl⟩⟩; refine ⟨_, rfl, ?_⟩))
 go_ret
 exact ⟨by first | rfl | (simp [errW_none, errW_some] <;> rfl) | (simp [*, errW_none, errW_some] <;> rfl), by repeat (first | (with_reducible first | exact HI0.out | apply IsS64.alloc | apply IsS64.drewN | apply IsS64.drew | apply IsS64.set_1) | exact HI0.out), by repeat (first | (with_reducible first | exact HB.out | apply below_alloc | apply pw_below_drewN | apply below_drew1 | refine below_set ?_ (IsS64.ge HI0.out)) | exact HB.out), by repeat (first | (with_reducible first | exact HK.out | apply KeepBut.set_ | apply keep_drewN | apply keep_drew | apply keep_alloc) | exact HK.out)⟩
end Go.Proofs.YtjmdlmogdbhdhaaDoor.P
namespace Go.Proofs.YtjmdlmogdbhdhaaDoor.P
open Go.RowKit Go.Proofs.YtjmdlmogdbhdhaaDoorW.PrintWords Go.Proofs.YtjmdlmogdbhdhaaDoorW.PrintLast Go.Proofs.YtjmdlmogdbhdhaaDoorW.PrintMore
attribute [local go_sem] max2_int min2_int max_two min_two max_three min_three max_four min_four   -- for this text's walks alone
set_option linter.unusedVariables false
set_option linter.unusedSimpArgs false
/-! ### deliberationkeep_Src_Range: function 13 -/
def deliberationkeep_Src_Range.f (s0_0 : List Int) (s0_1 : Int) (a1 : Int) (a2 : Int) : Option (Int × Int) := (deliberationkeep_Src_N.f s0_0 s0_1 (wrap64 ((wrap64 (a2 - a1)) + 1))).bind fun bt322 => (some (wrap64 (a1 + bt322.1), bt322.2))
set_option maxHeartbeats 8000000 in
set_option maxRecDepth 100000 in
theorem deliberationkeep_Src_Range.calls (g : Nat) (s0_0 : List Int) (s0_1 : Int) (a1 : Int) (a2 : Int) (r1 : Int) (r2 : Int) (w0 w : World) (hI : IsS64 w0 w g s0_0 s0_1) (hB : Below w0.heap.size w0 w) (h : deliberationkeep_Src_Range.f s0_0 s0_1 a1 a2 = some (r1, r2)) :
 Calls Tryd.prog 13 #[.pointer (some ⟨g, 0, none⟩), .int .i64 a1, .int .i64 a2] w fun e w' => e = .returned (.int .i64 r1) ∧ IsS64 w0 w' g s0_0 r2 ∧ Below w0.heap.size w0 w' ∧ KeepBut w w' g none := by
 have HI0 := Aside0.mk hI
 have HK := Aside0.mk (KeepBut.refl w g none)
 have HL := Aside0.mk hB.size
 clear hI
 have HW0 := Aside0.mk hB.size
 have HB := Aside0.mk hB
 clear hB
 have H : ((deliberationkeep_Src_N.f s0_0 s0_1 (wrap64 ((wrap64 (a2 - a1)) + 1))).bind fun bt322 => (some (wrap64 (a1 + bt322.1), bt322.2))) = some (r1, r2) := h
 clear h
 replace H := Option.bind_eq_some_iff.mp H
 obtain ⟨⟨t322, t323⟩, A40, H⟩ := H
 replace H : (some (wrap64 (a1 + t322), t323)) = some (r1, r2) := H
 have A4 := Aside0.mk A40
 clear A40
 simp only [Option.some.injEq, Prod.mk.injEq] at H
 obtain ⟨rfl, rfl⟩ := H
 go_enter Tryd.func13, Tryd.ntmps13
 go_wp2_with (first | ((with_reducible refine gate_callee (f := 16) rfl ?_); refine goesL_ (some 13) rfl rfl Tryd.func16 (by kernel_rfl) rfl #[.pointer (some ⟨g, 0, none⟩), .int .i64 (wrap64 ((wrap64 (a2 - a1)) + 1))] rfl (by (try simp only [List.map_toArray, List.map_cons, List.map_nil]); first | done | rfl | (simp only [List.length_drop, List.length_take]; rfl)) ?_; (with_reducible refine (deliberationkeep_Src_N.calls g s0_0 s0_1 (wrap64 ((wrap64 (a2 - a1)) + 1)) t322 t323 w0 _ ?side1 ?side2 A4.out).mono ?_); (case side1 => repeat (first | (with_reducible first | exact HI0.out | apply IsS64.alloc | apply IsS64.drewN | apply IsS64.drew | apply IsS64.set_1) | exact HI0.out)); (case side2 => repeat (first | (with_reducible first | exact HB.out | apply below_alloc | apply pw_below_drewN | apply below_drew1 | refine below_set ?_ (IsS64.ge HI0.out)) | exact HB.out)); rintro e w5 ⟨rfl, hi, hb, hk⟩; refine ⟨_, rfl, ?_⟩; have n0_ := Aside0.mk (KeepBut.trans (by repeat (first | (with_reducible first | exact HK.out | apply KeepBut.set_ | apply keep_drewN | apply keep_drew | apply keep_alloc) | exact HK.out)) hk (.inl rfl)); have n1_ := Aside0.mk (hb); have n2_ := Aside0.mk (hi); clear HK; clear HB; clear HI0; have HK := n0_; have HB := n1_; have HI0 := n2_; clear n0_ n1_ n2_; (try clear hb); (try clear hb2); (try clear hk); (try clear hi)))
 go_ret
 exact ⟨by first | rfl | (simp [errW_none, errW_some] <;> rfl) | (simp [*, errW_none, errW_some] <;> rfl), by repeat (first | (with_reducible first | exact HI0.out | apply IsS64.alloc | apply IsS64.drewN | apply IsS64.drew | apply IsS64.set_1) | exact HI0.out), by repeat (first | (with_reducible first | exact HB.out | apply below_alloc | apply pw_below_drewN | apply below_drew1 | refine below_set ?_ (IsS64.ge HI0.out)) | exact HB.out), by repeat (first | (with_reducible first | exact HK.out | apply KeepBut.set_ | apply keep_drewN | apply keep_drew | apply keep_alloc) | exact HK.out)⟩
end Go.Proofs.YtjmdlmogdbhdhaaDoor.P
namespace Go.Proofs.YtjmdlmogdbhdhaaDoor.P
open Go.RowKit Go.Proofs.YtjmdlmogdbhdhaaDoorW.PrintWords Go.Proofs.YtjmdlmogdbhdhaaDoorW.PrintLast Go.Proofs.YtjmdlmogdbhdhaaDoorW.PrintMore
attribute [local go_sem] max2_int min2_int max_two min_two max_three min_three max_four min_four   -- for this text's walks alone
set_option linter.unusedVariables false
set_option linter.unusedSimpArgs false
/-! ### deliberationnet_Graph: function 12 -/
mutual
def deliberationnet_Graph.l0 : Nat → Int → Int → List Int → Int → Int → List (S42) → Option (Int × (List (S42)) × Int)
 | 0, _, _, _, _, _, _ => none
 | k + 1, x6, x7, x1000, x1001, x328000, x328001 => if x7 < x328000 then (deliberationnet_Graph.l1 k x6 x7 0 x1000 x1001 x328000 x328001) else (some (x328000, x328001, x1001))
def deliberationnet_Graph.l1 : Nat → Int → Int → Int → List Int → Int → Int → List (S42) → Option (Int × (List (S42)) × Int)
 | 0, _, _, _, _, _, _, _ => none
 | k + 1, x6, x7, x8, x1000, x1001, x328000, x328001 => if x8 < x328000 then (if x7 = x8 then ((deliberationkeep_Src_N.f x1000 x1001 9).bind fun bt330 => (if bt330.1 = 1 then (if x328001.length < 8796093022208 then (deliberationnet_Graph.l1 k x6 x7 (wrap64 (x8 + 1)) x1000 bt330.2 x328000 (x328001 ++ [(⟨x7, x8⟩ : S42)])) else (none)) else (deliberationnet_Graph.l1 k x6 x7 (wrap64 (x8 + 1)) x1000 bt330.2 x328000 x328001))) else ((deliberationkeep_Src_N.f x1000 x1001 x6).bind fun bt335 => (if bt335.1 = 1 then (if x328001.length < 8796093022208 then (deliberationnet_Graph.l1 k x6 x7 (wrap64 (x8 + 1)) x1000 bt335.2 x328000 (x328001 ++ [(⟨x7, x8⟩ : S42)])) else (none)) else (deliberationnet_Graph.l1 k x6 x7 (wrap64 (x8 + 1)) x1000 bt335.2 x328000 x328001)))) else (deliberationnet_Graph.l0 k x6 (wrap64 (x7 + 1)) x1000 x1001 x328000 x328001)
end
def deliberationnet_Graph.f (k : Nat) (s0_0 : List Int) (s0_1 : Int) (a1 : Int) : Option (Int × (List (S42)) × Int) := (deliberationkeep_Src_Range.f s0_0 s0_1 1 a1).bind fun bt325 => ((deliberationkeep_Src_Range.f s0_0 bt325.2 2 5).bind fun bt328 => (deliberationnet_Graph.l0 k bt328.1 0 s0_0 bt328.2 bt325.1 ([] : List (S42))))
theorem deliberationnet_Graph.mono_l : ∀ k, (∀ y0 y1 y2 y3 y4 y5, LeO (deliberationnet_Graph.l0 k y0 y1 y2 y3 y4 y5) (deliberationnet_Graph.l0 (k + 1) y0 y1 y2 y3 y4 y5)) ∧ (∀ y0 y1 y2 y3 y4 y5 y6, LeO (deliberationnet_Graph.l1 k y0 y1 y2 y3 y4 y5 y6) (deliberationnet_Graph.l1 (k + 1) y0 y1 y2 y3 y4 y5 y6))
 | 0 => ⟨fun _ _ _ _ _ _ r h => by simp [deliberationnet_Graph.l0] at h, fun _ _ _ _ _ _ _ r h => by simp [deliberationnet_Graph.l1] at h⟩
 | k + 1 => by
  obtain ⟨ih0, ih1⟩ := deliberationnet_Graph.mono_l k
  refine ⟨?_, ?_⟩
  · intro y0 y1 y2 y3 y4 y5
    unfold deliberationnet_Graph.l0
    repeat' first
    | (with_reducible exact ih0 _ _ _ _ _ _)
    | (with_reducible exact ih1 _ _ _ _ _ _ _)
    | (with_reducible exact LeO.refl _)
    | (with_reducible exact LeO.none _)
    | (with_reducible refine LeO.ite ?_ ?_)
    | (with_reducible refine LeO.bind ?_ (fun _ => ?_))
    | exact ih0 _ _ _ _ _ _
    | exact ih1 _ _ _ _ _ _ _
    | exact LeO.none _
    | refine LeO.ite ?_ ?_
    | refine LeO.bind ?_ (fun _ => ?_)
  · intro y0 y1 y2 y3 y4 y5 y6
    unfold deliberationnet_Graph.l1
    repeat' first
    | (with_reducible exact ih0 _ _ _ _ _ _)
    | (with_reducible exact ih1 _ _ _ _ _ _ _)
    | (with_reducible exact LeO.refl _)
    | (with_reducible exact LeO.none _)
    | (with_reducible refine LeO.ite ?_ ?_)
    | (with_reducible refine LeO.bind ?_ (fun _ => ?_))
    | exact ih0 _ _ _ _ _ _
    | exact ih1 _ _ _ _ _ _ _
    | exact LeO.none _
    | refine LeO.ite ?_ ?_
    | refine LeO.bind ?_ (fun _ => ?_)
theorem deliberationnet_Graph.mono : ∀ a0 a1 a2 k, LeO (deliberationnet_Graph.f k a0 a1 a2) (deliberationnet_Graph.f (k + 1) a0 a1 a2) := by
 intro a0 a1 a2 k
 obtain ⟨ih0, ih1⟩ := deliberationnet_Graph.mono_l k
 unfold deliberationnet_Graph.f
 repeat' first
  | (with_reducible exact ih0 _ _ _ _ _ _)
  | (with_reducible exact ih1 _ _ _ _ _ _ _)
  | (with_reducible exact LeO.refl _)
  | (with_reducible exact LeO.none _)
  | (with_reducible refine LeO.ite ?_ ?_)
  | (with_reducible refine LeO.bind ?_ (fun _ => ?_))
  | exact ih0 _ _ _ _ _ _
  | exact ih1 _ _ _ _ _ _ _
  | exact LeO.none _
  | refine LeO.ite ?_ ?_
  | refine LeO.bind ?_ (fun _ => ?_)
set_option maxHeartbeats 8000000 in
set_option maxRecDepth 100000 in
theorem deliberationnet_Graph.calls (k : Nat) (g : Nat) (s0_0 : List Int) (s0_1 : Int) (a1 : Int) (r1 : Int) (r2 : List (S42)) (r3 : Int) (w0 w : World) (hI : IsS64 w0 w g s0_0 s0_1) (hB : Below w0.heap.size w0 w) (h : deliberationnet_Graph.f k s0_0 s0_1 a1 = some (r1, r2, r3)) :
 Calls Tryd.prog 12 #[.pointer (some ⟨g, 0, none⟩), .int .i64 a1] w fun e w' => ∃ v1_ : Value, e = .returned (.agg #[.int .i64 r1, v1_]) ∧ Kd.R k42 42 w' w.heap.size (fun _ => True) v1_ r2 ∧ IsS64 w0 w' g s0_0 r3 ∧ Below w0.heap.size w0 w' ∧ KeepBut w w' g none := by
 have hu24 := Tryd.underlying24
 have hu42 := Tryd.underlying42
 have HI0 := Aside0.mk hI
 have HK := Aside0.mk (KeepBut.refl w g none)
 have HL := Aside0.mk hB.size
 clear hI
 have HW0 := Aside0.mk hB.size
 have HB := Aside0.mk hB
 clear hB
 have H : ((deliberationkeep_Src_Range.f s0_0 s0_1 1 a1).bind fun bt325 => ((deliberationkeep_Src_Range.f s0_0 bt325.2 2 5).bind fun bt328 => (deliberationnet_Graph.l0 k bt328.1 0 s0_0 bt328.2 bt325.1 ([] : List (S42))))) = some (r1, r2, r3) := h
 clear h
 replace H := Option.bind_eq_some_iff.mp H
 obtain ⟨⟨t325, t326⟩, A30, H⟩ := H
 replace H : ((deliberationkeep_Src_Range.f s0_0 t326 2 5).bind fun bt328 => (deliberationnet_Graph.l0 k bt328.1 0 s0_0 bt328.2 t325 ([] : List (S42)))) = some (r1, r2, r3) := H
 have A3 := Aside0.mk A30
 clear A30
 replace H := Option.bind_eq_some_iff.mp H
 obtain ⟨⟨t328, t329⟩, A40, H⟩ := H
 replace H : (deliberationnet_Graph.l0 k t328 0 s0_0 t329 t325 ([] : List (S42))) = some (r1, r2, r3) := H
 have A4 := Aside0.mk A40
 clear A40
 have H' := Aside0.mk H
 clear H
 go_enter Tryd.func12, Tryd.ntmps12
 go_wp2_with (first | ((with_reducible refine gate_dst (N := 4) rfl ?_); refine box_event ?hg (N := 4) ?hd (cs := #[.int .i64 0, .slice none 0 0]) (t := 24) ?hr ?_; (case hd => rfl); (case hg => rfl); (case hr => first | (go_simp; done) | (go_simp; rfl)); intro gb324 hg w5 hbox hb; have n0_ := Aside0.mk (IsS64.below (by repeat (first | (with_reducible first | exact HI0.out | apply IsS64.alloc | apply IsS64.drewN | apply IsS64.drew | apply IsS64.set_1) | exact HI0.out)) hb); have n1_ := Aside0.mk (KeepBut.trans (by repeat (first | (with_reducible first | exact HK.out | apply KeepBut.set_ | apply keep_drewN | apply keep_drew | apply keep_alloc) | exact HK.out)) (KeepBut.of_below hb g none) (.inl rfl)); have n2_ := Aside0.mk (below_step (by repeat (first | (with_reducible first | exact HB.out | apply below_alloc | apply pw_below_drewN | apply below_drew1 | refine below_set ?_ (IsS64.ge HI0.out)) | exact HB.out)) hb); have n3_ := Aside0.mk (hbox); have n4_ := Aside0.mk ((by rw [hg]; exact (keep_size (w := w) (g := g) (row := none) (by repeat (first | (with_reducible first | exact HK.out | apply KeepBut.set_ | apply keep_drewN | apply keep_drew | apply keep_alloc) | exact HK.out))) : w.heap.size ≤ gb324)); have n5_ := Aside0.mk ((Nat.le_trans HW0.out (by rw [hg]; exact (keep_size (w := w) (g := g) (row := none) (by repeat (first | (with_reducible first | exact HK.out | apply KeepBut.set_ | apply keep_drewN | apply keep_drew | apply keep_alloc) | exact HK.out))) : w.heap.size ≤ gb324) : w0.heap.size ≤ gb324)); have n6_ := Aside0.mk ((by rw [hg]; exact Nat.ne_of_lt (IsS64.lt (show IsS64 w0 _ g s0_0 s0_1 from by repeat (first | (with_reducible first | exact HI0.out | apply IsS64.alloc | apply IsS64.drewN | apply IsS64.drew | apply IsS64.set_1) | exact HI0.out))) : g ≠ gb324)); have n7_ := Aside0.mk ((by rw [hg]; exact Nat.ne_of_gt (IsS64.lt (show IsS64 w0 _ g s0_0 s0_1 from by repeat (first | (with_reducible first | exact HI0.out | apply IsS64.alloc | apply IsS64.drewN | apply IsS64.drew | apply IsS64.set_1) | exact HI0.out))) : gb324 ≠ g)); clear HI0; clear HK; clear HB; have HI0 := n0_; have HK := n1_; have HB := n2_; have BK324 := n3_; have GW324 := n4_; have GE324 := n5_; have NB0_324 := n6_; have NB324_0 := n7_; clear n0_ n1_ n2_ n3_ n4_ n5_ n6_ n7_; clear hb hbox hg) | ((with_reducible refine gate_callee (f := 13) rfl ?_); refine goesL_ (some 12) rfl rfl Tryd.func13 (by kernel_rfl) rfl #[.pointer (some ⟨g, 0, none⟩), .int .i64 1, .int .i64 a1] rfl (by (try simp only [List.map_toArray, List.map_cons, List.map_nil]); first | done | rfl | (simp only [List.length_drop, List.length_take]; rfl)) ?_; (with_reducible refine (deliberationkeep_Src_Range.calls g s0_0 s0_1 1 a1 t325 t326 w0 _ ?side1 ?side2 A3.out).mono ?_); (case side1 => repeat (first | (with_reducible first | exact HI0.out | apply IsS64.alloc | apply IsS64.drewN | apply IsS64.drew | apply IsS64.set_1 | refine IsS64.far ?_ NB0_324.out _) | exact HI0.out)); (case side2 => repeat (first | (with_reducible first | exact HB.out | apply below_alloc | apply pw_below_drewN | apply below_drew1 | refine below_set ?_ (IsS64.ge HI0.out) | refine below_set ?_ GE324.out) | exact HB.out)); rintro e w6 ⟨rfl, hi, hb, hk⟩; refine ⟨_, rfl, ?_⟩; have n0_ := Aside0.mk (KeepBut.blk hk (g' := gb324) (o := .cells #[.int .i64 0, .slice none 0 0] 24 (0, 0)) (zK BK324) NB324_0.out (by simp)); have n1_ := Aside0.mk (KeepBut.trans (by repeat (first | (with_reducible first | exact HK.out | apply KeepBut.set_ | apply keep_drewN | apply keep_drew | apply keep_alloc | refine keep_far ?_ GW324.out _) | exact HK.out)) hk (.inl rfl)); have n2_ := Aside0.mk (hb); have n3_ := Aside0.mk (hi); clear BK324; clear HK; clear HB; clear HI0; have BK324 := n0_; have HK := n1_; have HB := n2_; have HI0 := n3_; clear n0_ n1_ n2_ n3_; (try clear hb); (try clear hb2); (try clear hk); (try clear hi)) | ((with_reducible refine gate_dst (N := 5) rfl ?_); refine box_event ?hg (N := 5) ?hd (cs := #[.int .i64 0, .slice none 0 0]) (t := 24) ?hr ?_; (case hd => rfl); (case hg => rfl); (case hr => first | (go_simp; done) | (go_simp; rfl)); intro gb327 hg w7 hbox hb; have n0_ := Aside0.mk (IsS64.below (by repeat (first | (with_reducible first | exact HI0.out | apply IsS64.alloc | apply IsS64.drewN | apply IsS64.drew | apply IsS64.set_1 | refine IsS64.far ?_ NB0_324.out _) | exact HI0.out)) hb); have n1_ := Aside0.mk (blk_below (g := gb324) (o := .cells #[.int .i64 0, .slice none 0 0] 24 (0, 0)) (zK BK324) hb); have n2_ := Aside0.mk (KeepBut.trans (by repeat (first | (with_reducible first | exact HK.out | apply KeepBut.set_ | apply keep_drewN | apply keep_drew | apply keep_alloc | refine keep_far ?_ GW324.out _) | exact HK.out)) (KeepBut.of_below hb g none) (.inl rfl)); have n3_ := Aside0.mk (below_step (by repeat (first | (with_reducible first | exact HB.out | apply below_alloc | apply pw_below_drewN | apply below_drew1 | refine below_set ?_ (IsS64.ge HI0.out) | refine below_set ?_ GE324.out) | exact HB.out)) hb); have n4_ := Aside0.mk (hbox); have n5_ := Aside0.mk ((by rw [hg]; exact (keep_size (w := w) (g := g) (row := none) (by repeat (first | (with_reducible first | exact HK.out | apply KeepBut.set_ | apply keep_drewN | apply keep_drew | apply keep_alloc | refine keep_far ?_ GW324.out _) | exact HK.out))) : w.heap.size ≤ gb327)); have n6_ := Aside0.mk ((Nat.le_trans HW0.out (by rw [hg]; exact (keep_size (w := w) (g := g) (row := none) (by repeat (first | (with_reducible first | exact HK.out | apply KeepBut.set_ | apply keep_drewN | apply keep_drew | apply keep_alloc | refine keep_far ?_ GW324.out _) | exact HK.out))) : w.heap.size ≤ gb327) : w0.heap.size ≤ gb327)); have n7_ := Aside0.mk ((by rw [hg]; exact Nat.ne_of_lt (blk_lt (g := gb324) (o := .cells #[.int .i64 0, .slice none 0 0] 24 (0, 0)) (zK BK324)) : gb324 ≠ gb327)); have n8_ := Aside0.mk ((by rw [hg]; exact Nat.ne_of_gt (blk_lt (g := gb324) (o := .cells #[.int .i64 0, .slice none 0 0] 24 (0, 0)) (zK BK324)) : gb327 ≠ gb324)); have n9_ := Aside0.mk ((by rw [hg]; exact Nat.ne_of_lt (IsS64.lt (show IsS64 w0 _ g s0_0 t326 from by repeat (first | (with_reducible first | exact HI0.out | apply IsS64.alloc | apply IsS64.drewN | apply IsS64.drew | apply IsS64.set_1 | refine IsS64.far ?_ NB0_324.out _) | exact HI0.out))) : g ≠ gb327)); have n10_ := Aside0.mk ((by rw [hg]; exact Nat.ne_of_gt (IsS64.lt (show IsS64 w0 _ g s0_0 t326 from by repeat (first | (with_reducible first | exact HI0.out | apply IsS64.alloc | apply IsS64.drewN | apply IsS64.drew | apply IsS64.set_1 | refine IsS64.far ?_ NB0_324.out _) | exact HI0.out))) : gb327 ≠ g)); clear HI0; clear BK324; clear HK; clear HB; have HI0 := n0_; have BK324 := n1_; have HK := n2_; have HB := n3_; have BK327 := n4_; have GW327 := n5_; have GE327 := n6_; have NB324_327 := n7_; have NB327_324 := n8_; have NB0_327 := n9_; have NB327_0 := n10_; clear n0_ n1_ n2_ n3_ n4_ n5_ n6_ n7_ n8_ n9_ n10_; clear hb hbox hg; have hnb8 := NB327_324.out; have hnc8 := NB324_327.out; have hnb9 := NB327_0.out; have hnc9 := NB0_327.out; have hcz10_0 : w7.cell? ⟨gb327, 0, none⟩ = some (.int .i64 0) := (blk_cell BK327.out 0).trans rfl; have hcz10_1 : w7.cell? ⟨gb327, 1, none⟩ = some (.slice none 0 0) := (blk_cell BK327.out 1).trans rfl; have hfz10_0 := blk_frozen BK327.out 0; have hfz10_1 := blk_frozen BK327.out 1) | ((with_reducible refine gate_callee (f := 13) rfl ?_); refine goesL_ (some 15) rfl rfl Tryd.func13 (by kernel_rfl) rfl #[.pointer (some ⟨g, 0, none⟩), .int .i64 2, .int .i64 5] rfl (by (try simp only [List.map_toArray, List.map_cons, List.map_nil]); first | done | rfl | (simp only [List.length_drop, List.length_take]; rfl)) ?_; (with_reducible refine (deliberationkeep_Src_Range.calls g s0_0 t326 2 5 t328 t329 w0 _ ?side1 ?side2 A4.out).mono ?_); (case side1 => repeat (first | (with_reducible first | exact HI0.out | apply IsS64.alloc | apply IsS64.drewN | apply IsS64.drew | apply IsS64.set_1 | refine IsS64.far ?_ NB0_324.out _ | refine IsS64.far ?_ NB0_327.out _) | exact HI0.out)); (case side2 => repeat (first | (with_reducible first | exact HB.out | apply below_alloc | apply pw_below_drewN | apply below_drew1 | refine below_set ?_ (IsS64.ge HI0.out) | refine below_set ?_ GE324.out | refine below_set ?_ GE327.out) | exact HB.out)); rintro e w11 ⟨rfl, hi, hb, hk⟩; refine ⟨_, rfl, ?_⟩; have n0_ := Aside0.mk (KeepBut.blk hk (g' := gb324) (o := .cells #[.int .i64 0, .slice none 0 0] 24 (0, 0)) (by (with_reducible repeat (first | refine blk_drewN ?_ _ | refine blk_drew ?_ | refine blk_alloc ?_ _)); refine blk_far ?_ NB324_327.out _; (with_reducible repeat (first | refine blk_drewN ?_ _ | refine blk_drew ?_ | refine blk_alloc ?_ _)); refine blk_far ?_ NB324_327.out _; (with_reducible repeat (first | refine blk_drewN ?_ _ | refine blk_drew ?_ | refine blk_alloc ?_ _)); exact BK324.out) NB324_0.out (by simp)); have n1_ := Aside0.mk (KeepBut.blk hk (g' := gb327) (o := .cells #[.int .i64 t325, .slice none 0 0] 24 (0, 0)) (by (with_reducible repeat (first | refine blk_drewN ?_ _ | refine blk_drew ?_ | refine blk_alloc ?_ _)); refine blk_put (cs := #[.int .i64 t325, .slice none 0 0]) ?_ 1 _ rfl; (with_reducible repeat (first | refine blk_drewN ?_ _ | refine blk_drew ?_ | refine blk_alloc ?_ _)); refine blk_put (cs := #[.int .i64 0, .slice none 0 0]) ?_ 0 _ rfl; (with_reducible repeat (first | refine blk_drewN ?_ _ | refine blk_drew ?_ | refine blk_alloc ?_ _)); exact BK327.out) NB327_0.out (by simp)); have n2_ := Aside0.mk (KeepBut.trans (by repeat (first | (with_reducible first | exact HK.out | apply KeepBut.set_ | apply keep_drewN | apply keep_drew | apply keep_alloc | refine keep_far ?_ GW324.out _ | refine keep_far ?_ GW327.out _) | exact HK.out)) hk (.inl rfl)); have n3_ := Aside0.mk (hb); have n4_ := Aside0.mk (hi); clear BK324; clear BK327; clear HK; clear HB; clear HI0; have BK324 := n0_; have BK327 := n1_; have HK := n2_; have HB := n3_; have HI0 := n4_; clear n0_ n1_ n2_ n3_ n4_; (try clear hb); (try clear hb2); (try clear hk); (try clear hi)))
 go_loopg [7] k (fun kq v7 w' => ∃ (x7_1 : Int) (x1001_1 : Int) (x328001_1 : List (S42)) (u328001 : Value), v7 = .int .i64 x7_1 ∧ Aside0 (deliberationnet_Graph.l0 kq t328 x7_1 s0_0 x1001_1 t325 x328001_1 = some (r1, r2, r3)) ∧ Aside0 (kq ≤ k) ∧ Aside0 (Kd.R k42 42 w' w.heap.size (fun _ => True) u328001 x328001_1) ∧ Aside0 (w'.heap[gb324]? = some (.cells #[.int .i64 0, (.slice none 0 0)] 24 (0, 0))) ∧ Aside0 (w'.heap[gb327]? = some (.cells #[.int .i64 t325, u328001] 24 (0, 0))) ∧ Aside0 (IsS64 w0 w' g s0_0 x1001_1) ∧ Aside0 (KeepBut w w' g none) ∧ Aside0 (Below w0.heap.size w0 w'))
 case atStart => exact ⟨(0), (t329), (([] : List (S42))), (.slice none 0 0), (by first | rfl | (simp; done) | (simp [*]; done)), H', ⟨Nat.le_refl _⟩, ⟨by first | exact Kd.R_nil _ _ _ _ _ | exact Kd.N_nil _ _ _ _ _ | exact Kd.V_nil _ _ _ _ _ | exact Kd.Q_nil _ _ _ _ _ | exact Kd.S_nil _ _ _ _ _ | exact Kd.R_nil _ _ _ 0 _⟩, ⟨zK BK324⟩, ⟨zK BK327⟩, ⟨by repeat (first | (with_reducible first | exact HI0.out | apply IsS64.alloc | apply IsS64.drewN | apply IsS64.drew | apply IsS64.set_1 | refine IsS64.far ?_ NB0_324.out _ | refine IsS64.far ?_ NB0_327.out _) | exact HI0.out)⟩, ⟨by repeat (first | (with_reducible first | exact HK.out | apply KeepBut.set_ | apply keep_drewN | apply keep_drew | apply keep_alloc | refine keep_far ?_ GW324.out _ | refine keep_far ?_ GW327.out _) | exact HK.out)⟩, ⟨by repeat (first | (with_reducible first | exact HB.out | apply below_alloc | apply pw_below_drewN | apply below_drew1 | refine below_set ?_ (IsS64.ge HI0.out) | refine below_set ?_ GE324.out | refine below_set ?_ GE327.out) | exact HB.out)⟩⟩
 case round =>
  clear H'
  try clear c1
  try clear p2
  try clear c8
  try clear c9
  try clear hcz10_0
  try clear hcz10_1
  try clear hfz10_0
  try clear hfz10_1
  obtain ⟨x7_1, x1001_1, x328001_1, u328001, rfl, HA, HK1, HO_328001, BK324, BK327, HI0, HK, HB⟩ := hrel
  cases gk with
  | zero => exact absurd HA.out (by simp [deliberationnet_Graph.l0])
  | succ k1 =>
   have H := HA.out
   clear HA
   simp only [deliberationnet_Graph.l0] at H
   by_cases c12 : x7_1 < t325
   · rw [if_pos c12] at H
     have c12b0 : decide (x7_1 < t325) = true := decide_eq_true c12
     clear c12
     have H' := Aside0.mk H
     clear H
     have hnb13 := NB327_324.out
     have hnc13 := NB324_327.out
     have hnb14 := NB327_0.out
     have hnc14 := NB0_327.out
     have hcz15_0 : wr.cell? ⟨gb327, 0, none⟩ = some (.int .i64 t325) := (blk_cell BK327.out 0).trans rfl
     have hcz15_1 : wr.cell? ⟨gb327, 1, none⟩ = some (u328001) := (blk_cell BK327.out 1).trans rfl
     have hfz15_0 := blk_frozen BK327.out 0
     have hfz15_1 := blk_frozen BK327.out 1
     go_wp2
     go_loopg [8] k1 (fun kq v8 w' => ∃ (x8_2 : Int) (x1001_2 : Int) (x328001_2 : List (S42)) (u328001 : Value), v8 = .int .i64 x8_2 ∧ Aside0 (deliberationnet_Graph.l1 kq t328 x7_1 x8_2 s0_0 x1001_2 t325 x328001_2 = some (r1, r2, r3)) ∧ Aside0 (kq ≤ k1) ∧ Aside0 (Kd.R k42 42 w' w.heap.size (fun _ => True) u328001 x328001_2) ∧ Aside0 (w'.heap[gb324]? = some (.cells #[.int .i64 0, (.slice none 0 0)] 24 (0, 0))) ∧ Aside0 (w'.heap[gb327]? = some (.cells #[.int .i64 t325, u328001] 24 (0, 0))) ∧ Aside0 (IsS64 w0 w' g s0_0 x1001_2) ∧ Aside0 (KeepBut w w' g none) ∧ Aside0 (Below w0.heap.size w0 w'))
     case atStart => exact ⟨(0), (x1001_1), (x328001_1), (u328001), (by first | rfl | (simp; done) | (simp [*]; done)), H', ⟨Nat.le_refl _⟩, ⟨zR HO_328001⟩, ⟨zK BK324⟩, ⟨zK BK327⟩, ⟨by repeat (first | (with_reducible first | exact HI0.out | apply IsS64.alloc | apply IsS64.drewN | apply IsS64.drew | apply IsS64.set_1 | refine IsS64.far ?_ NB0_324.out _ | refine IsS64.far ?_ NB0_327.out _) | exact HI0.out)⟩, ⟨by repeat (first | (with_reducible first | exact HK.out | apply KeepBut.set_ | apply keep_drewN | apply keep_drew | apply keep_alloc | refine keep_far ?_ GW324.out _ | refine keep_far ?_ GW327.out _) | exact HK.out)⟩, ⟨by repeat (first | (with_reducible first | exact HB.out | apply below_alloc | apply pw_below_drewN | apply below_drew1 | refine below_set ?_ (IsS64.ge HI0.out) | refine below_set ?_ GE324.out | refine below_set ?_ GE327.out) | exact HB.out)⟩⟩
     case round =>
      clear H'
      try clear c1
      try clear p2
      try clear c8
      try clear c9
      try clear c12
      try clear c12b0
      try clear c13
      try clear c14
      try clear hcz10_0
      try clear hcz10_1
      try clear hcz15_0
      try clear hcz15_1
      try clear hfz10_0
      try clear hfz10_1
      try clear hfz15_0
      try clear hfz15_1
      try clear p2
      obtain ⟨x8_2, x1001_2, x328001_2, u328001, rfl, HA, HK2, HO_328001, BK324, BK327, HI0, HK, HB⟩ := hrel
      cases gk with
      | zero => exact absurd HA.out (by simp [deliberationnet_Graph.l1])
      | succ k2 =>
       have H := HA.out
       clear HA
       simp only [deliberationnet_Graph.l1] at H
       by_cases c16 : x8_2 < t325
       · rw [if_pos c16] at H
         have c16b0 : decide (x8_2 < t325) = true := decide_eq_true c16
         clear c16
         by_cases c17 : x7_1 = x8_2
         · rw [if_pos c17] at H
           have c17b0 : (x7_1 == x8_2) = true := beq_iff_eq.mpr c17
           have c17b1 : (x7_1 != x8_2) = false := bne_eq_false_iff_eq.mpr c17
           clear c17
           replace H := Option.bind_eq_some_iff.mp H
           obtain ⟨⟨t330, t331⟩, A180, H⟩ := H
           replace H : (if t330 = 1 then (if x328001_2.length < 8796093022208 then (deliberationnet_Graph.l1 k2 t328 x7_1 (wrap64 (x8_2 + 1)) s0_0 t331 t325 (x328001_2 ++ [(⟨x7_1, x8_2⟩ : S42)])) else (none)) else (deliberationnet_Graph.l1 k2 t328 x7_1 (wrap64 (x8_2 + 1)) s0_0 t331 t325 x328001_2)) = some (r1, r2, r3) := H
           have A18 := Aside0.mk A180
           clear A180
           by_cases c19 : t330 = 1
           · rw [if_pos c19] at H
             have c19b0 : (t330 == 1) = true := beq_iff_eq.mpr c19
             have c19b1 : (t330 != 1) = false := bne_eq_false_iff_eq.mpr c19
             clear c19
             by_cases c20 : x328001_2.length < 8796093022208
             · rw [if_pos c20] at H
               have LMc20 := Aside0.mk c20
               clear c20
               obtain ⟨y332, hy332⟩ : ∃ y_ : List (S42), y_ = (x328001_2 ++ [(⟨x7_1, x8_2⟩ : S42)]) := ⟨_, rfl⟩
               replace H : (deliberationnet_Graph.l1 k2 t328 x7_1 (wrap64 (x8_2 + 1)) s0_0 t331 t325 y332) = some (r1, r2, r3) := by first | (rw [hy332]; with_reducible exact H) | (have H2_ := (Option.bind_some _ _).symm.trans H; rw [hy332]; with_reducible exact H2_) | (have H2_ := (Option.bind_some _ _).symm.trans H; with_reducible exact H2_) | with_reducible exact H | (rw [hy332]; exact H) | exact H
               have Ny332 := Aside0.mk hy332
               clear hy332
               have H' := Aside0.mk H
               clear H
               have hnb21 := NB327_324.out
               have hnc21 := NB324_327.out
               have hnb22 := NB327_0.out
               have hnc22 := NB0_327.out
               have hcz23_0 : wr.cell? ⟨gb327, 0, none⟩ = some (.int .i64 t325) := (blk_cell BK327.out 0).trans rfl
               have hcz23_1 : wr.cell? ⟨gb327, 1, none⟩ = some (u328001) := (blk_cell BK327.out 1).trans rfl
               have hfz23_0 := blk_frozen BK327.out 0
               have hfz23_1 := blk_frozen BK327.out 1
               go_wp2_with (first | ((with_reducible refine gate_callee (f := 16) rfl ?_); refine goesL_ (some 34) rfl rfl Tryd.func16 (by kernel_rfl) rfl #[.pointer (some ⟨g, 0, none⟩), .int .i64 9] rfl (by (try simp only [List.map_toArray, List.map_cons, List.map_nil]); first | done | rfl | (simp only [List.length_drop, List.length_take]; rfl)) ?_; (with_reducible refine (deliberationkeep_Src_N.calls g s0_0 x1001_2 9 t330 t331 w0 _ ?side1 ?side2 A18.out).mono ?_); (case side1 => repeat (first | (with_reducible first | exact HI0.out | apply IsS64.alloc | apply IsS64.drewN | apply IsS64.drew | apply IsS64.set_1 | refine IsS64.far ?_ NB0_324.out _ | refine IsS64.far ?_ NB0_327.out _) | exact HI0.out)); (case side2 => repeat (first | (with_reducible first | exact HB.out | apply below_alloc | apply pw_below_drewN | apply below_drew1 | refine below_set ?_ (IsS64.ge HI0.out) | refine below_set ?_ GE324.out | refine below_set ?_ GE327.out) | exact HB.out)); rintro e w24 ⟨rfl, hi, hb, hk⟩; refine ⟨_, rfl, ?_⟩; have n0_ := Aside0.mk (Kd.R_mono (Kd.R_keep (IsS64.apart (show IsS64 w0 _ g s0_0 x1001_2 from by repeat (first | (with_reducible first | exact HI0.out | apply IsS64.alloc | apply IsS64.drewN | apply IsS64.drew | apply IsS64.set_1 | refine IsS64.far ?_ NB0_324.out _ | refine IsS64.far ?_ NB0_327.out _) | exact HI0.out)) (zR HO_328001) (by decide)) hk (fun _ h => h.2)) (fun _ h => h.1)); have n1_ := Aside0.mk (KeepBut.blk hk (g' := gb324) (o := .cells #[.int .i64 0, .slice none 0 0] 24 (0, 0)) (zK BK324) NB324_0.out (by simp)); have n2_ := Aside0.mk (KeepBut.blk hk (g' := gb327) (o := .cells #[.int .i64 t325, u328001] 24 (0, 0)) (zK BK327) NB327_0.out (by simp)); have n3_ := Aside0.mk (KeepBut.trans (by repeat (first | (with_reducible first | exact HK.out | apply KeepBut.set_ | apply keep_drewN | apply keep_drew | apply keep_alloc | refine keep_far ?_ GW324.out _ | refine keep_far ?_ GW327.out _) | exact HK.out)) hk (.inl rfl)); have n4_ := Aside0.mk (hb); have n5_ := Aside0.mk (hi); clear HO_328001; clear BK324; clear BK327; clear HK; clear HB; clear HI0; have HO_328001 := n0_; have BK324 := n1_; have BK327 := n2_; have HK := n3_; have HB := n4_; have HI0 := n5_; clear n0_ n1_ n2_ n3_ n4_ n5_; (try clear hb); (try clear hb2); (try clear hk); (try clear hi); have hcz25_0 : w24.cell? ⟨gb327, 0, none⟩ = some (.int .i64 t325) := (blk_cell BK327.out 0).trans rfl; have hcz25_1 : w24.cell? ⟨gb327, 1, none⟩ = some (u328001) := (blk_cell BK327.out 1).trans rfl; have hfz25_0 := blk_frozen BK327.out 0; have hfz25_1 := blk_frozen BK327.out 1) | ((with_reducible refine gate_builtin (b := .append) (xs := #[.tmp 37, .tmp 41]) rfl ?_); at_builtin; refine Kd.R_append k42 w.heap.size rfl (.tmp 37) (.tmp 41) 22 42 (.agg #[(.int .i64 0), (.int .i64 0)]) 16 rfl Tryd.underlying22 info42 rfl (by decide) (by omega) u328001 x328001_2 (⟨x7_1, x8_2⟩ : S42) [.int .i64 x7_1, .int .i64 x8_2] (fun _ => True) (fun _ => False) rfl rfl ?aP (fun _ hk => hk.elim) ?aF ?aO (Below.refl _ _) ?aS ?aL ?_; (case aP => exact k42_mkM _ _ _ (⟨x7_1, x8_2⟩ : S42)); (case aF => exact (fun _ _ => trivial)); (case aO => exact (zR HO_328001)); (case aS => exact (keep_size (w := w) (g := g) (row := none) (by repeat (first | (with_reducible first | exact HK.out | apply KeepBut.set_ | apply keep_drewN | apply keep_drew | apply keep_alloc | refine keep_far ?_ GW324.out _ | refine keep_far ?_ GW327.out _) | exact HK.out)))); (case aL => have := LMc20.out; omega); intro v333 w26 ho hb hg hat; rw [← Ny332.out] at ho; have n0_ := Aside0.mk (blk_grown (g := gb324) (o := .cells #[.int .i64 0, .slice none 0 0] 24 (0, 0)) (zK BK324) hg (Kd.R_ne HO_328001.out BK324.out (by decide))); have n1_ := Aside0.mk (blk_grown (g := gb327) (o := .cells #[.int .i64 t325, u328001] 24 (0, 0)) (zK BK327) hg (Kd.R_ne HO_328001.out BK327.out (by decide))); have n2_ := Aside0.mk (IsS64.grown (by repeat (first | (with_reducible first | exact HI0.out | apply IsS64.alloc | apply IsS64.drewN | apply IsS64.drew | apply IsS64.set_1 | refine IsS64.far ?_ NB0_324.out _ | refine IsS64.far ?_ NB0_327.out _) | exact HI0.out)) hg (IsS64.own_ne HI0.out HO_328001.out (by decide))); have n3_ := Aside0.mk (below_weaken (by repeat (first | (with_reducible first | exact HB.out | apply below_alloc | apply pw_below_drewN | apply below_drew1 | refine below_set ?_ (IsS64.ge HI0.out) | refine below_set ?_ GE324.out | refine below_set ?_ GE327.out) | exact HB.out)) HL.out hb); have n4_ := Aside0.mk (KeepBut.trans (by repeat (first | (with_reducible first | exact HK.out | apply KeepBut.set_ | apply keep_drewN | apply keep_drew | apply keep_alloc | refine keep_far ?_ GW324.out _ | refine keep_far ?_ GW327.out _) | exact HK.out)) (KeepBut.of_grown hg g) (Kd.R_base2 HO_328001.out)); have n5_ := Aside0.mk (ho); clear BK324; clear BK327; clear HI0; clear HB; clear HK; clear HO_328001; have BK324 := n0_; have BK327 := n1_; have HI0 := n2_; have HB := n3_; have HK := n4_; have HO334 := n5_; clear n0_ n1_ n2_ n3_ n4_ n5_; clear ho hb hg hat; obtain ⟨Ao27, co27, eo27⟩ := Kd.R_slice HO334.out; subst eo27; have hcz28_0 : w26.cell? ⟨gb327, 0, none⟩ = some (.int .i64 t325) := (blk_cell BK327.out 0).trans rfl; have hcz28_1 : w26.cell? ⟨gb327, 1, none⟩ = some (u328001) := (blk_cell BK327.out 1).trans rfl; have hfz28_0 := blk_frozen BK327.out 0; have hfz28_1 := blk_frozen BK327.out 1))
               go_roundg k2
               case measure => have := HK1.out; have := HK2.out; omega
               case rel => exact ⟨(wrap64 (x8_2 + 1)), (t331), (y332), (.slice Ao27 y332.length co27), (by first | rfl | (simp; done) | (simp [*]; done)), H', ⟨by have := HK1.out; have := HK2.out; omega⟩, ⟨by (with_reducible repeat (first | apply Kd.R_alloc | apply Kd.R_drewN | apply Kd.R_drew)); exact Kd.R_mono (Kd.R_far (p := ⟨gb327, 1, none⟩) (Kd.R_types HO334.out BK327.out (by decide)) (fun _ hk => hk.2) (.slice Ao27 y332.length co27)) (fun _ hk => trivial)⟩, ⟨by (with_reducible repeat (first | refine blk_drewN ?_ _ | refine blk_drew ?_ | refine blk_alloc ?_ _)); refine blk_far ?_ NB324_327.out _; (with_reducible repeat (first | refine blk_drewN ?_ _ | refine blk_drew ?_ | refine blk_alloc ?_ _)); exact BK324.out⟩, ⟨by (with_reducible repeat (first | refine blk_drewN ?_ _ | refine blk_drew ?_ | refine blk_alloc ?_ _)); refine blk_put (cs := #[.int .i64 t325, u328001]) ?_ 1 _ rfl; (with_reducible repeat (first | refine blk_drewN ?_ _ | refine blk_drew ?_ | refine blk_alloc ?_ _)); exact BK327.out⟩, ⟨by repeat (first | (with_reducible first | exact HI0.out | apply IsS64.alloc | apply IsS64.drewN | apply IsS64.drew | apply IsS64.set_1 | refine IsS64.far ?_ NB0_324.out _ | refine IsS64.far ?_ NB0_327.out _) | exact HI0.out)⟩, ⟨by repeat (first | (with_reducible first | exact HK.out | apply KeepBut.set_ | apply keep_drewN | apply keep_drew | apply keep_alloc | refine keep_far ?_ GW324.out _ | refine keep_far ?_ GW327.out _) | exact HK.out)⟩, ⟨by repeat (first | (with_reducible first | exact HB.out | apply below_alloc | apply pw_below_drewN | apply below_drew1 | refine below_set ?_ (IsS64.ge HI0.out) | refine below_set ?_ GE324.out | refine below_set ?_ GE327.out) | exact HB.out)⟩⟩
             · rw [if_neg c20] at H
               exact absurd H (by simp)
           · rw [if_neg c19] at H
             have c19b0 : (t330 == 1) = false := beq_eq_false_iff_ne.mpr c19
             have c19b1 : (t330 != 1) = true := bne_iff_ne.mpr c19
             have H' := Aside0.mk H
             clear H
             have hnb29 := NB327_324.out
             have hnc29 := NB324_327.out
             have hnb30 := NB327_0.out
             have hnc30 := NB0_327.out
             have hcz31_0 : wr.cell? ⟨gb327, 0, none⟩ = some (.int .i64 t325) := (blk_cell BK327.out 0).trans rfl
             have hcz31_1 : wr.cell? ⟨gb327, 1, none⟩ = some (u328001) := (blk_cell BK327.out 1).trans rfl
             have hfz31_0 := blk_frozen BK327.out 0
             have hfz31_1 := blk_frozen BK327.out 1
             go_wp2_with (first | ((with_reducible refine gate_callee (f := 16) rfl ?_); refine goesL_ (some 34) rfl rfl Tryd.func16 (by kernel_rfl) rfl #[.pointer (some ⟨g, 0, none⟩), .int .i64 9] rfl (by (try simp only [List.map_toArray, List.map_cons, List.map_nil]); first | done | rfl | (simp only [List.length_drop, List.length_take]; rfl)) ?_; (with_reducible refine (deliberationkeep_Src_N.calls g s0_0 x1001_2 9 t330 t331 w0 _ ?side1 ?side2 A18.out).mono ?_); (case side1 => repeat (first | (with_reducible first | exact HI0.out | apply IsS64.alloc | apply IsS64.drewN | apply IsS64.drew | apply IsS64.set_1 | refine IsS64.far ?_ NB0_324.out _ | refine IsS64.far ?_ NB0_327.out _) | exact HI0.out)); (case side2 => repeat (first | (with_reducible first | exact HB.out | apply below_alloc | apply pw_below_drewN | apply below_drew1 | refine below_set ?_ (IsS64.ge HI0.out) | refine below_set ?_ GE324.out | refine below_set ?_ GE327.out) | exact HB.out)); rintro e w32 ⟨rfl, hi, hb, hk⟩; refine ⟨_, rfl, ?_⟩; have n0_ := Aside0.mk (Kd.R_mono (Kd.R_keep (IsS64.apart (show IsS64 w0 _ g s0_0 x1001_2 from by repeat (first | (with_reducible first | exact HI0.out | apply IsS64.alloc | apply IsS64.drewN | apply IsS64.drew | apply IsS64.set_1 | refine IsS64.far ?_ NB0_324.out _ | refine IsS64.far ?_ NB0_327.out _) | exact HI0.out)) (zR HO_328001) (by decide)) hk (fun _ h => h.2)) (fun _ h => h.1)); have n1_ := Aside0.mk (KeepBut.blk hk (g' := gb324) (o := .cells #[.int .i64 0, .slice none 0 0] 24 (0, 0)) (zK BK324) NB324_0.out (by simp)); have n2_ := Aside0.mk (KeepBut.blk hk (g' := gb327) (o := .cells #[.int .i64 t325, u328001] 24 (0, 0)) (zK BK327) NB327_0.out (by simp)); have n3_ := Aside0.mk (KeepBut.trans (by repeat (first | (with_reducible first | exact HK.out | apply KeepBut.set_ | apply keep_drewN | apply keep_drew | apply keep_alloc | refine keep_far ?_ GW324.out _ | refine keep_far ?_ GW327.out _) | exact HK.out)) hk (.inl rfl)); have n4_ := Aside0.mk (hb); have n5_ := Aside0.mk (hi); clear HO_328001; clear BK324; clear BK327; clear HK; clear HB; clear HI0; have HO_328001 := n0_; have BK324 := n1_; have BK327 := n2_; have HK := n3_; have HB := n4_; have HI0 := n5_; clear n0_ n1_ n2_ n3_ n4_ n5_; (try clear hb); (try clear hb2); (try clear hk); (try clear hi)))
             go_roundg k2
             case measure => have := HK1.out; have := HK2.out; omega
             case rel => exact ⟨(wrap64 (x8_2 + 1)), (t331), (x328001_2), (u328001), (by first | rfl | (simp; done) | (simp [*]; done)), H', ⟨by have := HK1.out; have := HK2.out; omega⟩, ⟨zR HO_328001⟩, ⟨zK BK324⟩, ⟨zK BK327⟩, ⟨by repeat (first | (with_reducible first | exact HI0.out | apply IsS64.alloc | apply IsS64.drewN | apply IsS64.drew | apply IsS64.set_1 | refine IsS64.far ?_ NB0_324.out _ | refine IsS64.far ?_ NB0_327.out _) | exact HI0.out)⟩, ⟨by repeat (first | (with_reducible first | exact HK.out | apply KeepBut.set_ | apply keep_drewN | apply keep_drew | apply keep_alloc | refine keep_far ?_ GW324.out _ | refine keep_far ?_ GW327.out _) | exact HK.out)⟩, ⟨by repeat (first | (with_reducible first | exact HB.out | apply below_alloc | apply pw_below_drewN | apply below_drew1 | refine below_set ?_ (IsS64.ge HI0.out) | refine below_set ?_ GE324.out | refine below_set ?_ GE327.out) | exact HB.out)⟩⟩
         · rw [if_neg c17] at H
           have c17b0 : (x7_1 == x8_2) = false := beq_eq_false_iff_ne.mpr c17
           have c17b1 : (x7_1 != x8_2) = true := bne_iff_ne.mpr c17
           replace H := Option.bind_eq_some_iff.mp H
           obtain ⟨⟨t335, t336⟩, A330, H⟩ := H
           replace H : (if t335 = 1 then (if x328001_2.length < 8796093022208 then (deliberationnet_Graph.l1 k2 t328 x7_1 (wrap64 (x8_2 + 1)) s0_0 t336 t325 (x328001_2 ++ [(⟨x7_1, x8_2⟩ : S42)])) else (none)) else (deliberationnet_Graph.l1 k2 t328 x7_1 (wrap64 (x8_2 + 1)) s0_0 t336 t325 x328001_2)) = some (r1, r2, r3) := H
           have A33 := Aside0.mk A330
           clear A330
           by_cases c34 : t335 = 1
           · rw [if_pos c34] at H
             have c34b0 : (t335 == 1) = true := beq_iff_eq.mpr c34
             have c34b1 : (t335 != 1) = false := bne_eq_false_iff_eq.mpr c34
             clear c34
             by_cases c35 : x328001_2.length < 8796093022208
             · rw [if_pos c35] at H
               have LMc35 := Aside0.mk c35
               clear c35
               obtain ⟨y337, hy337⟩ : ∃ y_ : List (S42), y_ = (x328001_2 ++ [(⟨x7_1, x8_2⟩ : S42)]) := ⟨_, rfl⟩
               replace H : (deliberationnet_Graph.l1 k2 t328 x7_1 (wrap64 (x8_2 + 1)) s0_0 t336 t325 y337) = some (r1, r2, r3) := by first | (rw [hy337]; with_reducible exact H) | (have H2_ := (Option.bind_some _ _).symm.trans H; rw [hy337]; with_reducible exact H2_) | (have H2_ := (Option.bind_some _ _).symm.trans H; with_reducible exact H2_) | with_reducible exact H | (rw [hy337]; exact H) | exact H
               have Ny337 := Aside0.mk hy337
               clear hy337
               have H' := Aside0.mk H
               clear H
               have hnb36 := NB327_324.out
               have hnc36 := NB324_327.out
               have hnb37 := NB327_0.out
               have hnc37 := NB0_327.out
               have hcz38_0 : wr.cell? ⟨gb327, 0, none⟩ = some (.int .i64 t325) := (blk_cell BK327.out 0).trans rfl
               have hcz38_1 : wr.cell? ⟨gb327, 1, none⟩ = some (u328001) := (blk_cell BK327.out 1).trans rfl
               have hfz38_0 := blk_frozen BK327.out 0
               have hfz38_1 := blk_frozen BK327.out 1
               go_wp2_with (first | ((with_reducible refine gate_callee (f := 16) rfl ?_); refine goesL_ (some 34) rfl rfl Tryd.func16 (by kernel_rfl) rfl #[.pointer (some ⟨g, 0, none⟩), .int .i64 t328] rfl (by (try simp only [List.map_toArray, List.map_cons, List.map_nil]); first | done | rfl | (simp only [List.length_drop, List.length_take]; rfl)) ?_; (with_reducible refine (deliberationkeep_Src_N.calls g s0_0 x1001_2 t328 t335 t336 w0 _ ?side1 ?side2 A33.out).mono ?_); (case side1 => repeat (first | (with_reducible first | exact HI0.out | apply IsS64.alloc | apply IsS64.drewN | apply IsS64.drew | apply IsS64.set_1 | refine IsS64.far ?_ NB0_324.out _ | refine IsS64.far ?_ NB0_327.out _) | exact HI0.out)); (case side2 => repeat (first | (with_reducible first | exact HB.out | apply below_alloc | apply pw_below_drewN | apply below_drew1 | refine below_set ?_ (IsS64.ge HI0.out) | refine below_set ?_ GE324.out | refine below_set ?_ GE327.out) | exact HB.out)); rintro e w39 ⟨rfl, hi, hb, hk⟩; refine ⟨_, rfl, ?_⟩; have n0_ := Aside0.mk (Kd.R_mono (Kd.R_keep (IsS64.apart (show IsS64 w0 _ g s0_0 x1001_2 from by repeat (first | (with_reducible first | exact HI0.out | apply IsS64.alloc | apply IsS64.drewN | apply IsS64.drew | apply IsS64.set_1 | refine IsS64.far ?_ NB0_324.out _ | refine IsS64.far ?_ NB0_327.out _) | exact HI0.out)) (zR HO_328001) (by decide)) hk (fun _ h => h.2)) (fun _ h => h.1)); have n1_ := Aside0.mk (KeepBut.blk hk (g' := gb324) (o := .cells #[.int .i64 0, .slice none 0 0] 24 (0, 0)) (zK BK324) NB324_0.out (by simp)); have n2_ := Aside0.mk (KeepBut.blk hk (g' := gb327) (o := .cells #[.int .i64 t325, u328001] 24 (0, 0)) (zK BK327) NB327_0.out (by simp)); have n3_ := Aside0.mk (KeepBut.trans (by repeat (first | (with_reducible first | exact HK.out | apply KeepBut.set_ | apply keep_drewN | apply keep_drew | apply keep_alloc | refine keep_far ?_ GW324.out _ | refine keep_far ?_ GW327.out _) | exact HK.out)) hk (.inl rfl)); have n4_ := Aside0.mk (hb); have n5_ := Aside0.mk (hi); clear HO_328001; clear BK324; clear BK327; clear HK; clear HB; clear HI0; have HO_328001 := n0_; have BK324 := n1_; have BK327 := n2_; have HK := n3_; have HB := n4_; have HI0 := n5_; clear n0_ n1_ n2_ n3_ n4_ n5_; (try clear hb); (try clear hb2); (try clear hk); (try clear hi); have hcz40_0 : w39.cell? ⟨gb327, 0, none⟩ = some (.int .i64 t325) := (blk_cell BK327.out 0).trans rfl; have hcz40_1 : w39.cell? ⟨gb327, 1, none⟩ = some (u328001) := (blk_cell BK327.out 1).trans rfl; have hfz40_0 := blk_frozen BK327.out 0; have hfz40_1 := blk_frozen BK327.out 1) | ((with_reducible refine gate_builtin (b := .append) (xs := #[.tmp 37, .tmp 41]) rfl ?_); at_builtin; refine Kd.R_append k42 w.heap.size rfl (.tmp 37) (.tmp 41) 22 42 (.agg #[(.int .i64 0), (.int .i64 0)]) 16 rfl Tryd.underlying22 info42 rfl (by decide) (by omega) u328001 x328001_2 (⟨x7_1, x8_2⟩ : S42) [.int .i64 x7_1, .int .i64 x8_2] (fun _ => True) (fun _ => False) rfl rfl ?aP (fun _ hk => hk.elim) ?aF ?aO (Below.refl _ _) ?aS ?aL ?_; (case aP => exact k42_mkM _ _ _ (⟨x7_1, x8_2⟩ : S42)); (case aF => exact (fun _ _ => trivial)); (case aO => exact (zR HO_328001)); (case aS => exact (keep_size (w := w) (g := g) (row := none) (by repeat (first | (with_reducible first | exact HK.out | apply KeepBut.set_ | apply keep_drewN | apply keep_drew | apply keep_alloc | refine keep_far ?_ GW324.out _ | refine keep_far ?_ GW327.out _) | exact HK.out)))); (case aL => have := LMc35.out; omega); intro v338 w41 ho hb hg hat; rw [← Ny337.out] at ho; have n0_ := Aside0.mk (blk_grown (g := gb324) (o := .cells #[.int .i64 0, .slice none 0 0] 24 (0, 0)) (zK BK324) hg (Kd.R_ne HO_328001.out BK324.out (by decide))); have n1_ := Aside0.mk (blk_grown (g := gb327) (o := .cells #[.int .i64 t325, u328001] 24 (0, 0)) (zK BK327) hg (Kd.R_ne HO_328001.out BK327.out (by decide))); have n2_ := Aside0.mk (IsS64.grown (by repeat (first | (with_reducible first | exact HI0.out | apply IsS64.alloc | apply IsS64.drewN | apply IsS64.drew | apply IsS64.set_1 | refine IsS64.far ?_ NB0_324.out _ | refine IsS64.far ?_ NB0_327.out _) | exact HI0.out)) hg (IsS64.own_ne HI0.out HO_328001.out (by decide))); have n3_ := Aside0.mk (below_weaken (by repeat (first | (with_reducible first | exact HB.out | apply below_alloc | apply pw_below_drewN | apply below_drew1 | refine below_set ?_ (IsS64.ge HI0.out) | refine below_set ?_ GE324.out | refine below_set ?_ GE327.out) | exact HB.out)) HL.out hb); have n4_ := Aside0.mk (KeepBut.trans (by repeat (first | (with_reducible first | exact HK.out | apply KeepBut.set_ | apply keep_drewN | apply keep_drew | apply keep_alloc | refine keep_far ?_ GW324.out _ | refine keep_far ?_ GW327.out _) | exact HK.out)) (KeepBut.of_grown hg g) (Kd.R_base2 HO_328001.out)); have n5_ := Aside0.mk (ho); clear BK324; clear BK327; clear HI0; clear HB; clear HK; clear HO_328001; have BK324 := n0_; have BK327 := n1_; have HI0 := n2_; have HB := n3_; have HK := n4_; have HO339 := n5_; clear n0_ n1_ n2_ n3_ n4_ n5_; clear ho hb hg hat; obtain ⟨Ao42, co42, eo42⟩ := Kd.R_slice HO339.out; subst eo42; have hcz43_0 : w41.cell? ⟨gb327, 0, none⟩ = some (.int .i64 t325) := (blk_cell BK327.out 0).trans rfl; have hcz43_1 : w41.cell? ⟨gb327, 1, none⟩ = some (u328001) := (blk_cell BK327.out 1).trans rfl; have hfz43_0 := blk_frozen BK327.out 0; have hfz43_1 := blk_frozen BK327.out 1))
               go_roundg k2
               case measure => have := HK1.out; have := HK2.out; omega
               case rel => exact ⟨(wrap64 (x8_2 + 1)), (t336), (y337), (.slice Ao42 y337.length co42), (by first | rfl | (simp; done) | (simp [*]; done)), H', ⟨by have := HK1.out; have := HK2.out; omega⟩, ⟨by (with_reducible repeat (first | apply Kd.R_alloc | apply Kd.R_drewN | apply Kd.R_drew)); exact Kd.R_mono (Kd.R_far (p := ⟨gb327, 1, none⟩) (Kd.R_types HO339.out BK327.out (by decide)) (fun _ hk => hk.2) (.slice Ao42 y337.length co42)) (fun _ hk => trivial)⟩, ⟨by (with_reducible repeat (first | refine blk_drewN ?_ _ | refine blk_drew ?_ | refine blk_alloc ?_ _)); refine blk_far ?_ NB324_327.out _; (with_reducible repeat (first | refine blk_drewN ?_ _ | refine blk_drew ?_ | refine blk_alloc ?_ _)); exact BK324.out⟩, ⟨by (with_reducible repeat (first | refine blk_drewN ?_ _ | refine blk_drew ?_ | refine blk_alloc ?_ _)); refine blk_put (cs := #[.int .i64 t325, u328001]) ?_ 1 _ rfl; (with_reducible repeat (first | refine blk_drewN ?_ _ | refine blk_drew ?_ | refine blk_alloc ?_ _)); exact BK327.out⟩, ⟨by repeat (first | (with_reducible first | exact HI0.out | apply IsS64.alloc | apply IsS64.drewN | apply IsS64.drew | apply IsS64.set_1 | refine IsS64.far ?_ NB0_324.out _ | refine IsS64.far ?_ NB0_327.out _) | exact HI0.out)⟩, ⟨by repeat (first | (with_reducible first | exact HK.out | apply KeepBut.set_ | apply keep_drewN | apply keep_drew | apply keep_alloc | refine keep_far ?_ GW324.out _ | refine keep_far ?_ GW327.out _) | exact HK.out)⟩, ⟨by repeat (first | (with_reducible first | exact HB.out | apply below_alloc | apply pw_below_drewN | apply below_drew1 | refine below_set ?_ (IsS64.ge HI0.out) | refine below_set ?_ GE324.out | refine below_set ?_ GE327.out) | exact HB.out)⟩⟩
             · rw [if_neg c35] at H
               exact absurd H (by simp)
           · rw [if_neg c34] at H
             have c34b0 : (t335 == 1) = false := beq_eq_false_iff_ne.mpr c34
             have c34b1 : (t335 != 1) = true := bne_iff_ne.mpr c34
             have H' := Aside0.mk H
             clear H
             have hnb44 := NB327_324.out
             have hnc44 := NB324_327.out
             have hnb45 := NB327_0.out
             have hnc45 := NB0_327.out
             have hcz46_0 : wr.cell? ⟨gb327, 0, none⟩ = some (.int .i64 t325) := (blk_cell BK327.out 0).trans rfl
             have hcz46_1 : wr.cell? ⟨gb327, 1, none⟩ = some (u328001) := (blk_cell BK327.out 1).trans rfl
             have hfz46_0 := blk_frozen BK327.out 0
             have hfz46_1 := blk_frozen BK327.out 1
             go_wp2_with (first | ((with_reducible refine gate_callee (f := 16) rfl ?_); refine goesL_ (some 34) rfl rfl Tryd.func16 (by kernel_rfl) rfl #[.pointer (some ⟨g, 0, none⟩), .int .i64 t328] rfl (by (try simp only [List.map_toArray, List.map_cons, List.map_nil]); first | done | rfl | (simp only [List.length_drop, List.length_take]; rfl)) ?_; (with_reducible refine (deliberationkeep_Src_N.calls g s0_0 x1001_2 t328 t335 t336 w0 _ ?side1 ?side2 A33.out).mono ?_); (case side1 => repeat (first | (with_reducible first | exact HI0.out | apply IsS64.alloc | apply IsS64.drewN | apply IsS64.drew | apply IsS64.set_1 | refine IsS64.far ?_ NB0_324.out _ | refine IsS64.far ?_ NB0_327.out _) | exact HI0.out)); (case side2 => repeat (first | (with_reducible first | exact HB.out | apply below_alloc | apply pw_below_drewN | apply below_drew1 | refine below_set ?_ (IsS64.ge HI0.out) | refine below_set ?_ GE324.out | refine below_set ?_ GE327.out) | exact HB.out)); rintro e w47 ⟨rfl, hi, hb, hk⟩; refine ⟨_, rfl, ?_⟩; have n0_ := Aside0.mk (Kd.R_mono (Kd.R_keep (IsS64.apart (show IsS64 w0 _ g s0_0 x1001_2 from by repeat (first | (with_reducible first | exact HI0.out | apply IsS64.alloc | apply IsS64.drewN | apply IsS64.drew | apply IsS64.set_1 | refine IsS64.far ?_ NB0_324.out _ | refine IsS64.far ?_ NB0_327.out _) | exact HI0.out)) (zR HO_328001) (by decide)) hk (fun _ h => h.2)) (fun _ h => h.1)); have n1_ := Aside0.mk (KeepBut.blk hk (g' := gb324) (o := .cells #[.int .i64 0, .slice none 0 0] 24 (0, 0)) (zK BK324) NB324_0.out (by simp)); have n2_ := Aside0.mk (KeepBut.blk hk (g' := gb327) (o := .cells #[.int .i64 t325, u328001] 24 (0, 0)) (zK BK327) NB327_0.out (by simp)); have n3_ := Aside0.mk (KeepBut.trans (by repeat (first | (with_reducible first | exact HK.out | apply KeepBut.set_ | apply keep_drewN | apply keep_drew | apply keep_alloc | refine keep_far ?_ GW324.out _ | refine keep_far ?_ GW327.out _) | exact HK.out)) hk (.inl rfl)); have n4_ := Aside0.mk (hb); have n5_ := Aside0.mk (hi); clear HO_328001; clear BK324; clear BK327; clear HK; clear HB; clear HI0; have HO_328001 := n0_; have BK324 := n1_; have BK327 := n2_; have HK := n3_; have HB := n4_; have HI0 := n5_; clear n0_ n1_ n2_ n3_ n4_ n5_; (try clear hb); (try clear hb2); (try clear hk); (try clear hi)))
             go_roundg k2
             case measure => have := HK1.out; have := HK2.out; omega
             case rel => exact ⟨(wrap64 (x8_2 + 1)), (t336), (x328001_2), (u328001), (by first | rfl | (simp; done) | (simp [*]; done)), H', ⟨by have := HK1.out; have := HK2.out; omega⟩, ⟨zR HO_328001⟩, ⟨zK BK324⟩, ⟨zK BK327⟩, ⟨by repeat (first | (with_reducible first | exact HI0.out | apply IsS64.alloc | apply IsS64.drewN | apply IsS64.drew | apply IsS64.set_1 | refine IsS64.far ?_ NB0_324.out _ | refine IsS64.far ?_ NB0_327.out _) | exact HI0.out)⟩, ⟨by repeat (first | (with_reducible first | exact HK.out | apply KeepBut.set_ | apply keep_drewN | apply keep_drew | apply keep_alloc | refine keep_far ?_ GW324.out _ | refine keep_far ?_ GW327.out _) | exact HK.out)⟩, ⟨by repeat (first | (with_reducible first | exact HB.out | apply below_alloc | apply pw_below_drewN | apply below_drew1 | refine below_set ?_ (IsS64.ge HI0.out) | refine below_set ?_ GE324.out | refine below_set ?_ GE327.out) | exact HB.out)⟩⟩
       · rw [if_neg c16] at H
         have c16b0 : decide (x8_2 < t325) = false := decide_eq_false c16
         clear c16
         have H' := Aside0.mk H
         clear H
         have hnb48 := NB327_324.out
         have hnc48 := NB324_327.out
         have hnb49 := NB327_0.out
         have hnc49 := NB0_327.out
         have hcz50_0 : wr.cell? ⟨gb327, 0, none⟩ = some (.int .i64 t325) := (blk_cell BK327.out 0).trans rfl
         have hcz50_1 : wr.cell? ⟨gb327, 1, none⟩ = some (u328001) := (blk_cell BK327.out 1).trans rfl
         have hfz50_0 := blk_frozen BK327.out 0
         have hfz50_1 := blk_frozen BK327.out 1
         go_wp2
         go_roundg k2
         case measure => have := HK1.out; have := HK2.out; omega
         case rel => exact ⟨(wrap64 (x7_1 + 1)), (x1001_2), (x328001_2), (u328001), (by first | rfl | (simp; done) | (simp [*]; done)), H', ⟨by have := HK1.out; have := HK2.out; omega⟩, ⟨zR HO_328001⟩, ⟨zK BK324⟩, ⟨zK BK327⟩, ⟨by repeat (first | (with_reducible first | exact HI0.out | apply IsS64.alloc | apply IsS64.drewN | apply IsS64.drew | apply IsS64.set_1 | refine IsS64.far ?_ NB0_324.out _ | refine IsS64.far ?_ NB0_327.out _) | exact HI0.out)⟩, ⟨by repeat (first | (with_reducible first | exact HK.out | apply KeepBut.set_ | apply keep_drewN | apply keep_drew | apply keep_alloc | refine keep_far ?_ GW324.out _ | refine keep_far ?_ GW327.out _) | exact HK.out)⟩, ⟨by repeat (first | (with_reducible first | exact HB.out | apply below_alloc | apply pw_below_drewN | apply below_drew1 | refine below_set ?_ (IsS64.ge HI0.out) | refine below_set ?_ GE324.out | refine below_set ?_ GE327.out) | exact HB.out)⟩⟩
   · rw [if_neg c12] at H
     have c12b0 : decide (x7_1 < t325) = false := decide_eq_false c12
     clear c12
     simp only [Option.some.injEq, Prod.mk.injEq] at H
     obtain ⟨rfl, rfl, rfl⟩ := H
     have hnb51 := NB327_324.out
     have hnc51 := NB324_327.out
     have hnb52 := NB327_0.out
     have hnc52 := NB0_327.out
     have hcz53_0 : wr.cell? ⟨gb327, 0, none⟩ = some (.int .i64 t325) := (blk_cell BK327.out 0).trans rfl
     have hcz53_1 : wr.cell? ⟨gb327, 1, none⟩ = some (u328001) := (blk_cell BK327.out 1).trans rfl
     have hfz53_0 := blk_frozen BK327.out 0
     have hfz53_1 := blk_frozen BK327.out 1
     have hnb54 := NB324_0.out
     have hnc54 := NB0_324.out
     have hcz55_0 : wr.cell? ⟨gb324, 0, none⟩ = some (.int .i64 0) := (blk_cell BK324.out 0).trans rfl
     have hcz55_1 : wr.cell? ⟨gb324, 1, none⟩ = some (.slice none 0 0) := (blk_cell BK324.out 1).trans rfl
     have hfz55_0 := blk_frozen BK324.out 0
     have hfz55_1 := blk_frozen BK324.out 1
     obtain ⟨Ao56, co56, eo56⟩ := Kd.R_slice HO_328001.out
     subst eo56
     go_wp2
     refine bodyPost_ret (results_cell_row rfl _ _ gb324 24 #[.int .i64 t325, .slice Ao56 x328001_1.length co56] (0, 0) _ rfl (by (with_reducible repeat (first | refine blk_drewN ?_ _ | refine blk_drew ?_ | refine blk_alloc ?_ _)); refine blk_put (cs := #[.int .i64 t325, .slice none 0 0]) ?_ 1 _ rfl; (with_reducible repeat (first | refine blk_drewN ?_ _ | refine blk_drew ?_ | refine blk_alloc ?_ _)); refine blk_put (cs := #[.int .i64 0, .slice none 0 0]) ?_ 0 _ rfl; (with_reducible repeat (first | refine blk_drewN ?_ _ | refine blk_drew ?_ | refine blk_alloc ?_ _)); exact BK324.out) Tryd.underlying24 rfl (by kernel_rfl)) rfl ?_
     exact ⟨_, by first | rfl | (simp [errW_none, errW_some] <;> rfl) | (simp [*, errW_none, errW_some] <;> rfl), by (with_reducible repeat (first | apply Kd.R_alloc | apply Kd.R_drewN | apply Kd.R_drew)); exact Kd.R_mono (Kd.R_far (p := ⟨gb324, 1, none⟩) (Kd.R_far (p := ⟨gb324, 0, none⟩) (Kd.R_types HO_328001.out BK324.out (by decide)) (fun _ hk => hk.2) (.int .i64 t325)) (fun _ hk => hk.2) (.slice Ao56 x328001_1.length co56)) (fun _ hk => trivial), by repeat (first | (with_reducible first | exact HI0.out | apply IsS64.alloc | apply IsS64.drewN | apply IsS64.drew | apply IsS64.set_1 | refine IsS64.far ?_ NB0_324.out _ | refine IsS64.far ?_ NB0_327.out _) | exact HI0.out), by repeat (first | (with_reducible first | exact HB.out | apply below_alloc | apply pw_below_drewN | apply below_drew1 | refine below_set ?_ (IsS64.ge HI0.out) | refine below_set ?_ GE324.out | refine below_set ?_ GE327.out) | exact HB.out), by repeat (first | (with_reducible first | exact HK.out | apply KeepBut.set_ | apply keep_drewN | apply keep_drew | apply keep_alloc | refine keep_far ?_ GW324.out _ | refine keep_far ?_ GW327.out _) | exact HK.out)⟩
end Go.Proofs.YtjmdlmogdbhdhaaDoor.P
namespace Go.Proofs.YtjmdlmogdbhdhaaDoor.P
open Go.RowKit Go.Proofs.YtjmdlmogdbhdhaaDoorW.PrintWords Go.Proofs.YtjmdlmogdbhdhaaDoorW.PrintLast Go.Proofs.YtjmdlmogdbhdhaaDoorW.PrintMore
attribute [local go_sem] max2_int min2_int max_two min_two max_three min_three max_four min_four   -- for this text's walks alone
set_option linter.unusedVariables false
set_option linter.unusedSimpArgs false
attribute [local go_sem high] eqA42
/-! ### deliberationref21_Has: function 20 -/
def deliberationref21_Has.l0 : Nat → List (S42) → Int → Int → Int → Option (Bool)
 | 0, _, _, _, _ => none
 | k + 1, x0, x5, x460000, x460001 => if x5 < (x0.length : Int) then (if 0 ≤ x5 then (if (((rd_T42 x0 x5).f0) == x460000 && (((rd_T42 x0 x5).f1) == x460001)) = true then (some true) else (deliberationref21_Has.l0 k x0 (wrap64 (x5 + 1)) x460000 x460001)) else (none)) else (some false)
def deliberationref21_Has.f (k : Nat) (l0 : List (S42)) (a1_0 : Int) (a1_1 : Int) : Option (Bool) := deliberationref21_Has.l0 k l0 0 a1_0 a1_1
theorem deliberationref21_Has.mono_l : ∀ k, (∀ y0 y1 y2 y3, LeO (deliberationref21_Has.l0 k y0 y1 y2 y3) (deliberationref21_Has.l0 (k + 1) y0 y1 y2 y3))
 | 0 => fun _ _ _ _ r h => by simp [deliberationref21_Has.l0] at h
 | k + 1 => by
  have ih0 := deliberationref21_Has.mono_l k
  · intro y0 y1 y2 y3
    unfold deliberationref21_Has.l0
    repeat' first
    | (with_reducible exact ih0 _ _ _ _)
    | (with_reducible exact LeO.refl _)
    | (with_reducible exact LeO.none _)
    | (with_reducible refine LeO.ite ?_ ?_)
    | (with_reducible refine LeO.bind ?_ (fun _ => ?_))
    | exact ih0 _ _ _ _
    | exact LeO.none _
    | refine LeO.ite ?_ ?_
    | refine LeO.bind ?_ (fun _ => ?_)
theorem deliberationref21_Has.mono : ∀ a0 a1 a2 k, LeO (deliberationref21_Has.f k a0 a1 a2) (deliberationref21_Has.f (k + 1) a0 a1 a2) := by
 intro a0 a1 a2 k
 have ih0 := deliberationref21_Has.mono_l k
 unfold deliberationref21_Has.f
 repeat' first
  | (with_reducible exact ih0 _ _ _ _)
  | (with_reducible exact LeO.refl _)
  | (with_reducible exact LeO.none _)
  | (with_reducible refine LeO.ite ?_ ?_)
  | (with_reducible refine LeO.bind ?_ (fun _ => ?_))
  | exact ih0 _ _ _ _
  | exact LeO.none _
  | refine LeO.ite ?_ ?_
  | refine LeO.bind ?_ (fun _ => ?_)
set_option maxHeartbeats 8000000 in
set_option maxRecDepth 100000 in
theorem deliberationref21_Has.calls (k : Nat) (A0 : Option Addr) (c0 : Nat) (l0 : List (S42)) (a1_0 : Int) (a1_1 : Int) (r : Bool) (w : World) (hr0 : Kd.C k42 w A0 l0.length l0) (hc0 : l0.length ≤ c0) (h : deliberationref21_Has.f k l0 a1_0 a1_1 = some r) :
 Calls Tryd.prog 20 #[.slice A0 l0.length c0, .agg #[.int .i64 a1_0, .int .i64 a1_1]] w fun e w' => e = .returned (.bool r) ∧ Below w.heap.size w w' := by
 have hu42 := Tryd.underlying42
 have HR0 := Aside0.mk hr0
 have HC0 := Aside0.mk hc0
 clear hr0 hc0
 have HB := Aside0.mk (Below.refl w.heap.size w)
 have H : (deliberationref21_Has.l0 k l0 0 a1_0 a1_1) = some r := h
 clear h
 have H' := Aside0.mk H
 clear H
 go_enter Tryd.func20, Tryd.ntmps20
 go_wp2_with (first | ((with_reducible refine gate_dst (N := 3) rfl ?_); refine box_event ?hg (N := 3) ?hd (cs := #[.int .i64 a1_0, .int .i64 a1_1]) (t := 42) ?hr ?_; (case hd => rfl); (case hg => rfl); (case hr => first | (go_simp; done) | (go_simp; rfl)); intro gb459 hg w3 hbox hb; have n0_ := Aside0.mk (below_step (zB HB) hb); have n1_ := Aside0.mk (hbox); have n2_ := Aside0.mk ((by rw [hg]; exact (below_size (zB HB)) : w.heap.size ≤ gb459)); have n3_ := Aside0.mk ((by rw [hg]; exact (below_size (zB HB)) : w.heap.size ≤ gb459)); clear HB; have HB := n0_; have BK459 := n1_; have GW459 := n2_; have GE459 := n3_; clear n0_ n1_ n2_ n3_; clear hb hbox hg))
 repeat (go_quiet (first | ((with_reducible refine gate_dst (N := 3) rfl ?_); refine box_event ?hg (N := 3) ?hd (cs := #[.int .i64 a1_0, .int .i64 a1_1]) (t := 42) ?hr ?_; (case hd => rfl); (case hg => rfl); (case hr => first | (go_simp; done) | (go_simp; rfl)); intro gb459 hg w3 hbox hb; have n0_ := Aside0.mk (below_step (zB HB) hb); have n1_ := Aside0.mk (hbox); have n2_ := Aside0.mk ((by rw [hg]; exact (below_size (zB HB)) : w.heap.size ≤ gb459)); have n3_ := Aside0.mk ((by rw [hg]; exact (below_size (zB HB)) : w.heap.size ≤ gb459)); clear HB; have HB := n0_; have BK459 := n1_; have GW459 := n2_; have GE459 := n3_; clear n0_ n1_ n2_ n3_; clear hb hbox hg)); try go_wp2_with (first | ((with_reducible refine gate_dst (N := 3) rfl ?_); refine box_event ?hg (N := 3) ?hd (cs := #[.int .i64 a1_0, .int .i64 a1_1]) (t := 42) ?hr ?_; (case hd => rfl); (case hg => rfl); (case hr => first | (go_simp; done) | (go_simp; rfl)); intro gb459 hg w3 hbox hb; have n0_ := Aside0.mk (below_step (zB HB) hb); have n1_ := Aside0.mk (hbox); have n2_ := Aside0.mk ((by rw [hg]; exact (below_size (zB HB)) : w.heap.size ≤ gb459)); have n3_ := Aside0.mk ((by rw [hg]; exact (below_size (zB HB)) : w.heap.size ≤ gb459)); clear HB; have HB := n0_; have BK459 := n1_; have GW459 := n2_; have GE459 := n3_; clear n0_ n1_ n2_ n3_; clear hb hbox hg)))
 go_loopg [5] k (fun kq v5 w' => ∃ (x5_1 : Int), v5 = .int .i64 x5_1 ∧ Aside0 (deliberationref21_Has.l0 kq l0 x5_1 a1_0 a1_1 = some r) ∧ Aside0 (kq ≤ k) ∧ Aside0 (w'.heap[gb459]? = some (.cells #[.int .i64 a1_0, .int .i64 a1_1] 42 (0, 0))) ∧ Aside0 (Below w.heap.size w w'))
 case atStart => exact ⟨(0), (by first | rfl | (simp; done) | (simp [*]; done)), H', ⟨Nat.le_refl _⟩, ⟨zK BK459⟩, ⟨zB HB⟩⟩
 case round =>
  clear H'
  try clear c2
  try clear p2
  obtain ⟨x5_1, rfl, HA, HK1, BK459, HB⟩ := hrel
  cases gk with
  | zero => exact absurd HA.out (by simp [deliberationref21_Has.l0])
  | succ k1 =>
   have H := HA.out
   clear HA
   simp only [deliberationref21_Has.l0] at H
   by_cases c4 : x5_1 < (l0.length : Int)
   · rw [if_pos c4] at H
     have c4b0 : decide (x5_1 < (l0.length : Int)) = true := decide_eq_true c4
     clear c4
     by_cases c5 : 0 ≤ x5_1
     · rw [if_pos c5] at H
       have c5b0 : decide (0 ≤ x5_1) = true := decide_eq_true c5
       clear c5
       by_cases c6 : (((rd_T42 l0 x5_1).f0) == a1_0 && (((rd_T42 l0 x5_1).f1) == a1_1)) = true
       · rw [if_pos c6] at H
         have c6b0 : (((rd_T42 l0 x5_1).f0) == a1_0 && (((rd_T42 l0 x5_1).f1) == a1_1)) = true := c6
         (try (have c6b1 : decide (((rd_T42 l0 x5_1).f0) = a1_0 && (((rd_T42 l0 x5_1).f1) == a1_1)) = true := by simpa using c6))
         (try (have c6b2 : (((rd_T42 l0 x5_1).f0) == a1_0 && (((rd_T42 l0 x5_1).f1) == a1_1)) = true := by simpa using c6))
         clear c6
         obtain rfl := Option.some.inj H
         have p460 : 0 ≤ (x5_1 : Int) := of_decide_eq_true (by first | (with_reducible assumption) | assumption)
         have q460 : x5_1 < (l0.length : Int) := of_decide_eq_true (by first | (with_reducible assumption) | assumption)
         obtain ⟨ad460, e460, hx460_0, hx460_1⟩ := at_T42 HR0.out x5_1 p460 q460
         cases e460
         replace hx460_0 := (HB.out.cell (World.block_lt_of_cell? w _ hx460_0)).trans hx460_0
         replace hx460_1 := (HB.out.cell (World.block_lt_of_cell? w _ hx460_1)).trans hx460_1
         replace p460 := eq_true p460
         replace q460 := eq_true q460
         have hcz7_0 : wr.cell? ⟨gb459, 0, none⟩ = some (.int .i64 a1_0) := (blk_cell BK459.out 0).trans rfl
         have hcz7_1 : wr.cell? ⟨gb459, 1, none⟩ = some (.int .i64 a1_1) := (blk_cell BK459.out 1).trans rfl
         have hfz7_0 := blk_frozen BK459.out 0
         have hfz7_1 := blk_frozen BK459.out 1
         go_wp2
         repeat (go_quiet (fail); try go_wp2)
         go_ret
         exact ⟨by first | rfl | (simp [errW_none, errW_some] <;> rfl) | (simp [*, errW_none, errW_some] <;> rfl), zB HB⟩
       · rw [if_neg c6] at H
         have c6b0 : (((rd_T42 l0 x5_1).f0) == a1_0 && (((rd_T42 l0 x5_1).f1) == a1_1)) = false := by simpa using c6
         (try (have c6b1 : decide (((rd_T42 l0 x5_1).f0) = a1_0 && (((rd_T42 l0 x5_1).f1) == a1_1)) = false := by simpa using c6))
         (try (have c6b2 : (((rd_T42 l0 x5_1).f0) == a1_0 && (((rd_T42 l0 x5_1).f1) == a1_1)) = false := by simpa using c6))
         (try (have c6b3 : ¬ (((rd_T42 l0 x5_1).f0) = a1_0 && (((rd_T42 l0 x5_1).f1) == a1_1)) := by simpa using c6))
         clear c6
         have H' := Aside0.mk H
         clear H
         have p460 : 0 ≤ (x5_1 : Int) := of_decide_eq_true (by first | (with_reducible assumption) | assumption)
         have q460 : x5_1 < (l0.length : Int) := of_decide_eq_true (by first | (with_reducible assumption) | assumption)
         obtain ⟨ad460, e460, hx460_0, hx460_1⟩ := at_T42 HR0.out x5_1 p460 q460
         cases e460
         replace hx460_0 := (HB.out.cell (World.block_lt_of_cell? w _ hx460_0)).trans hx460_0
         replace hx460_1 := (HB.out.cell (World.block_lt_of_cell? w _ hx460_1)).trans hx460_1
         replace p460 := eq_true p460
         replace q460 := eq_true q460
         have hcz8_0 : wr.cell? ⟨gb459, 0, none⟩ = some (.int .i64 a1_0) := (blk_cell BK459.out 0).trans rfl
         have hcz8_1 : wr.cell? ⟨gb459, 1, none⟩ = some (.int .i64 a1_1) := (blk_cell BK459.out 1).trans rfl
         have hfz8_0 := blk_frozen BK459.out 0
         have hfz8_1 := blk_frozen BK459.out 1
         go_wp2
         repeat (go_quiet (fail); try go_wp2)
         go_roundg k1
         case measure => have := HK1.out; omega
         case rel => exact ⟨(wrap64 (x5_1 + 1)), (by first | rfl | (simp; done) | (simp [*]; done)), H', ⟨by have := HK1.out; omega⟩, ⟨zK BK459⟩, ⟨zB HB⟩⟩
     · rw [if_neg c5] at H
       exact absurd H (by simp)
   · rw [if_neg c4] at H
     have c4b0 : decide (x5_1 < (l0.length : Int)) = false := decide_eq_false c4
     clear c4
     obtain rfl := Option.some.inj H
     go_wp2
     repeat (go_quiet (fail); try go_wp2)
     go_ret
     exact ⟨by first | rfl | (simp [errW_none, errW_some] <;> rfl) | (simp [*, errW_none, errW_some] <;> rfl), zB HB⟩
end Go.Proofs.YtjmdlmogdbhdhaaDoor.P
