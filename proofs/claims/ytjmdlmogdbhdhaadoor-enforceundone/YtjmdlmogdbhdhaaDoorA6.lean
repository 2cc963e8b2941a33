import Derived.Test.YtjmdlmogdbhdhaaDoorA2
import Derived.Test.YtjmdlmogdbhdhaaDoorA5
namespace Go.Proofs.YtjmdlmogdbhdhaaDoor.P
open Go.RowKit Go.Proofs.YtjmdlmogdbhdhaaDoorW.PrintWords Go.Proofs.YtjmdlmogdbhdhaaDoorW.PrintLast Go.Proofs.YtjmdlmogdbhdhaaDoorW.PrintMore
attribute [local go_sem] max2_int min2_int max_two min_two max_three min_three max_four min_four   -- for this text's walks alone
set_option linter.unusedVariables false
set_option linter.unusedSimpArgs false
/-! ### deliberationlaw21_pairs: function 19 -/
def deliberationlaw21_pairs.l0 : Nat → Int → List (S42) → Int → List Int → Int → Option ((List (S42)) × Int)
 | 0, _, _, _, _, _ => none
 | k + 1, x1, x5, x6, x1000, x1001 => if x6 > 0 then ((deliberationkeep_Src_N.f x1000 x1001 x1).bind fun bt561 => ((deliberationkeep_Src_N.f x1000 bt561.2 x1).bind fun bt563 => (if x5.length < 8796093022208 then (deliberationlaw21_pairs.l0 k x1 (x5 ++ [(⟨bt561.1, bt563.1⟩ : S42)]) (wrap64 (x6 - 1)) x1000 bt563.2) else (none)))) else (some (x5, x1001))
def deliberationlaw21_pairs.f (k : Nat) (s0_0 : List Int) (s0_1 : Int) (a1 : Int) : Option ((List (S42)) × Int) := (deliberationkeep_Src_N.f s0_0 s0_1 5).bind fun bt559 => (deliberationlaw21_pairs.l0 k a1 ([] : List (S42)) bt559.1 s0_0 bt559.2)
theorem deliberationlaw21_pairs.mono_l : ∀ k, (∀ y0 y1 y2 y3 y4, LeO (deliberationlaw21_pairs.l0 k y0 y1 y2 y3 y4) (deliberationlaw21_pairs.l0 (k + 1) y0 y1 y2 y3 y4))
 | 0 => fun _ _ _ _ _ r h => by simp [deliberationlaw21_pairs.l0] at h
 | k + 1 => by
  have ih0 := deliberationlaw21_pairs.mono_l k
  · intro y0 y1 y2 y3 y4
    unfold deliberationlaw21_pairs.l0
    repeat' first
    | (with_reducible exact ih0 _ _ _ _ _)
    | (with_reducible exact LeO.refl _)
    | (with_reducible exact LeO.none _)
    | (with_reducible refine LeO.ite ?_ ?_)
    | (with_reducible refine LeO.bind ?_ (fun _ => ?_))
    | exact ih0 _ _ _ _ _
    | exact LeO.none _
    | refine LeO.ite ?_ ?_
    | refine LeO.bind ?_ (fun _ => ?_)
theorem deliberationlaw21_pairs.mono : ∀ a0 a1 a2 k, LeO (deliberationlaw21_pairs.f k a0 a1 a2) (deliberationlaw21_pairs.f (k + 1) a0 a1 a2) := by
 intro a0 a1 a2 k
 have ih0 := deliberationlaw21_pairs.mono_l k
 unfold deliberationlaw21_pairs.f
 repeat' first
  | (with_reducible exact ih0 _ _ _ _ _)
  | (with_reducible exact LeO.refl _)
  | (with_reducible exact LeO.none _)
  | (with_reducible refine LeO.ite ?_ ?_)
  | (with_reducible refine LeO.bind ?_ (fun _ => ?_))
  | exact ih0 _ _ _ _ _
  | exact LeO.none _
  | refine LeO.ite ?_ ?_
  | refine LeO.bind ?_ (fun _ => ?_)
set_option maxHeartbeats 8000000 in
set_option maxRecDepth 100000 in
theorem deliberationlaw21_pairs.calls (k : Nat) (g : Nat) (s0_0 : List Int) (s0_1 : Int) (a1 : Int) (r1 : List (S42)) (r2 : Int) (w0 w : World) (hI : IsS64 w0 w g s0_0 s0_1) (hB : Below w0.heap.size w0 w) (h : deliberationlaw21_pairs.f k s0_0 s0_1 a1 = some (r1, r2)) :
 Calls Tryd.prog 19 #[.pointer (some ⟨g, 0, none⟩), .int .i64 a1] w fun e w' => ∃ v0_ : Value, e = .returned (v0_) ∧ Kd.R k42 42 w' w.heap.size (fun _ => True) v0_ r1 ∧ IsS64 w0 w' g s0_0 r2 ∧ Below w0.heap.size w0 w' ∧ KeepBut w w' g none := by
 have hu42 := Tryd.underlying42
 have HI0 := Aside0.mk hI
 have HK := Aside0.mk (KeepBut.refl w g none)
 have HL := Aside0.mk hB.size
 clear hI
 have HW0 := Aside0.mk hB.size
 have HB := Aside0.mk hB
 clear hB
 have H : ((deliberationkeep_Src_N.f s0_0 s0_1 5).bind fun bt559 => (deliberationlaw21_pairs.l0 k a1 ([] : List (S42)) bt559.1 s0_0 bt559.2)) = some (r1, r2) := h
 clear h
 replace H := Option.bind_eq_some_iff.mp H
 obtain ⟨⟨t559, t560⟩, A30, H⟩ := H
 replace H : (deliberationlaw21_pairs.l0 k a1 ([] : List (S42)) t559 s0_0 t560) = some (r1, r2) := H
 have A3 := Aside0.mk A30
 clear A30
 have H' := Aside0.mk H
 clear H
 go_enter Tryd.func19, Tryd.ntmps19
 go_wp2_with (first | ((with_reducible refine gate_callee (f := 16) rfl ?_); refine goesL_ (some 8) rfl rfl Tryd.func16 (by kernel_rfl) rfl #[.pointer (some ⟨g, 0, none⟩), .int .i64 5] rfl (by (try simp only [List.map_toArray, List.map_cons, List.map_nil]); first | done | rfl | (simp only [List.length_drop, List.length_take]; rfl)) ?_; (with_reducible refine (deliberationkeep_Src_N.calls g s0_0 s0_1 5 t559 t560 w0 _ ?side1 ?side2 A3.out).mono ?_); (case side1 => repeat (first | (with_reducible first | exact HI0.out | apply IsS64.alloc | apply IsS64.drewN | apply IsS64.drew | apply IsS64.set_1) | exact HI0.out)); (case side2 => repeat (first | (with_reducible first | exact HB.out | apply below_alloc | apply pw_below_drewN | apply below_drew1 | refine below_set ?_ (IsS64.ge HI0.out)) | exact HB.out)); rintro e w4 ⟨rfl, hi, hb, hk⟩; refine ⟨_, rfl, ?_⟩; have n0_ := Aside0.mk (KeepBut.trans (by repeat (first | (with_reducible first | exact HK.out | apply KeepBut.set_ | apply keep_drewN | apply keep_drew | apply keep_alloc) | exact HK.out)) hk (.inl rfl)); have n1_ := Aside0.mk (hb); have n2_ := Aside0.mk (hi); clear HK; clear HB; clear HI0; have HK := n0_; have HB := n1_; have HI0 := n2_; clear n0_ n1_ n2_; (try clear hb); (try clear hb2); (try clear hk); (try clear hi)))
 go_loopg [5, 6] k (fun kq v5 v6 w' => ∃ (x5_1 : List (S42)) (x6_1 : Int) (x1001_1 : Int), v6 = .int .i64 x6_1 ∧ Aside0 (deliberationlaw21_pairs.l0 kq a1 x5_1 x6_1 s0_0 x1001_1 = some (r1, r2)) ∧ Aside0 (kq ≤ k) ∧ Aside0 (Kd.R k42 42 w' w.heap.size (fun _ => True) v5 x5_1) ∧ Aside0 (IsS64 w0 w' g s0_0 x1001_1) ∧ Aside0 (KeepBut w w' g none) ∧ Aside0 (Below w0.heap.size w0 w'))
 case atStart => exact ⟨(([] : List (S42))), (t559), (t560), (by first | rfl | (simp; done) | (simp [*]; done)), H', ⟨Nat.le_refl _⟩, ⟨by first | exact Kd.R_nil _ _ _ _ _ | exact Kd.N_nil _ _ _ _ _ | exact Kd.V_nil _ _ _ _ _ | exact Kd.Q_nil _ _ _ _ _ | exact Kd.S_nil _ _ _ _ _ | exact Kd.R_nil _ _ _ 0 _⟩, ⟨by repeat (first | (with_reducible first | exact HI0.out | apply IsS64.alloc | apply IsS64.drewN | apply IsS64.drew | apply IsS64.set_1) | exact HI0.out)⟩, ⟨by repeat (first | (with_reducible first | exact HK.out | apply KeepBut.set_ | apply keep_drewN | apply keep_drew | apply keep_alloc) | exact HK.out)⟩, ⟨by repeat (first | (with_reducible first | exact HB.out | apply below_alloc | apply pw_below_drewN | apply below_drew1 | refine below_set ?_ (IsS64.ge HI0.out)) | exact HB.out)⟩⟩
 case round =>
  clear H'
  try clear c1
  try clear p2
  obtain ⟨x5_1, x6_1, x1001_1, rfl, HA, HK1, HO_5, HI0, HK, HB⟩ := hrel
  cases gk with
  | zero => exact absurd HA.out (by simp [deliberationlaw21_pairs.l0])
  | succ k1 =>
   have H := HA.out
   clear HA
   simp only [deliberationlaw21_pairs.l0] at H
   by_cases c5 : x6_1 > 0
   · rw [if_pos c5] at H
     have c5b0 : decide (0 < x6_1) = true := decide_eq_true c5
     clear c5
     replace H := Option.bind_eq_some_iff.mp H
     obtain ⟨⟨t561, t562⟩, A60, H⟩ := H
     replace H : ((deliberationkeep_Src_N.f s0_0 t562 a1).bind fun bt563 => (if x5_1.length < 8796093022208 then (deliberationlaw21_pairs.l0 k1 a1 (x5_1 ++ [(⟨t561, bt563.1⟩ : S42)]) (wrap64 (x6_1 - 1)) s0_0 bt563.2) else (none))) = some (r1, r2) := H
     have A6 := Aside0.mk A60
     clear A60
     replace H := Option.bind_eq_some_iff.mp H
     obtain ⟨⟨t563, t564⟩, A70, H⟩ := H
     replace H : (if x5_1.length < 8796093022208 then (deliberationlaw21_pairs.l0 k1 a1 (x5_1 ++ [(⟨t561, t563⟩ : S42)]) (wrap64 (x6_1 - 1)) s0_0 t564) else (none)) = some (r1, r2) := H
     have A7 := Aside0.mk A70
     clear A70
     by_cases c8 : x5_1.length < 8796093022208
     · rw [if_pos c8] at H
       have LMc8 := Aside0.mk c8
       clear c8
       obtain ⟨y565, hy565⟩ : ∃ y_ : List (S42), y_ = (x5_1 ++ [(⟨t561, t563⟩ : S42)]) := ⟨_, rfl⟩
       replace H : (deliberationlaw21_pairs.l0 k1 a1 y565 (wrap64 (x6_1 - 1)) s0_0 t564) = some (r1, r2) := by first | (rw [hy565]; with_reducible exact H) | (have H2_ := (Option.bind_some _ _).symm.trans H; rw [hy565]; with_reducible exact H2_) | (have H2_ := (Option.bind_some _ _).symm.trans H; with_reducible exact H2_) | with_reducible exact H | (rw [hy565]; exact H) | exact H
       have Ny565 := Aside0.mk hy565
       clear hy565
       have H' := Aside0.mk H
       clear H
       go_wp2_with (first | ((with_reducible refine gate_callee (f := 16) rfl ?_); refine goesL_ (some 16) rfl rfl Tryd.func16 (by kernel_rfl) rfl #[.pointer (some ⟨g, 0, none⟩), .int .i64 a1] rfl (by (try simp only [List.map_toArray, List.map_cons, List.map_nil]); first | done | rfl | (simp only [List.length_drop, List.length_take]; rfl)) ?_; (with_reducible refine (deliberationkeep_Src_N.calls g s0_0 x1001_1 a1 t561 t562 w0 _ ?side1 ?side2 A6.out).mono ?_); (case side1 => repeat (first | (with_reducible first | exact HI0.out | apply IsS64.alloc | apply IsS64.drewN | apply IsS64.drew | apply IsS64.set_1) | exact HI0.out)); (case side2 => repeat (first | (with_reducible first | exact HB.out | apply below_alloc | apply pw_below_drewN | apply below_drew1 | refine below_set ?_ (IsS64.ge HI0.out)) | exact HB.out)); rintro e w9 ⟨rfl, hi, hb, hk⟩; refine ⟨_, rfl, ?_⟩; have n0_ := Aside0.mk (Kd.R_mono (Kd.R_keep (IsS64.apart (show IsS64 w0 _ g s0_0 x1001_1 from by repeat (first | (with_reducible first | exact HI0.out | apply IsS64.alloc | apply IsS64.drewN | apply IsS64.drew | apply IsS64.set_1) | exact HI0.out)) (zR HO_5) (by decide)) hk (fun _ h => h.2)) (fun _ h => h.1)); have n1_ := Aside0.mk (KeepBut.trans (by repeat (first | (with_reducible first | exact HK.out | apply KeepBut.set_ | apply keep_drewN | apply keep_drew | apply keep_alloc) | exact HK.out)) hk (.inl rfl)); have n2_ := Aside0.mk (hb); have n3_ := Aside0.mk (hi); clear HO_5; clear HK; clear HB; clear HI0; have HO_5 := n0_; have HK := n1_; have HB := n2_; have HI0 := n3_; clear n0_ n1_ n2_ n3_; (try clear hb); (try clear hb2); (try clear hk); (try clear hi)) | ((with_reducible refine gate_callee (f := 16) rfl ?_); refine goesL_ (some 19) rfl rfl Tryd.func16 (by kernel_rfl) rfl #[.pointer (some ⟨g, 0, none⟩), .int .i64 a1] rfl (by (try simp only [List.map_toArray, List.map_cons, List.map_nil]); first | done | rfl | (simp only [List.length_drop, List.length_take]; rfl)) ?_; (with_reducible refine (deliberationkeep_Src_N.calls g s0_0 t562 a1 t563 t564 w0 _ ?side1 ?side2 A7.out).mono ?_); (case side1 => repeat (first | (with_reducible first | exact HI0.out | apply IsS64.alloc | apply IsS64.drewN | apply IsS64.drew | apply IsS64.set_1) | exact HI0.out)); (case side2 => repeat (first | (with_reducible first | exact HB.out | apply below_alloc | apply pw_below_drewN | apply below_drew1 | refine below_set ?_ (IsS64.ge HI0.out)) | exact HB.out)); rintro e w10 ⟨rfl, hi, hb, hk⟩; refine ⟨_, rfl, ?_⟩; have n0_ := Aside0.mk (Kd.R_mono (Kd.R_keep (IsS64.apart (show IsS64 w0 _ g s0_0 t562 from by repeat (first | (with_reducible first | exact HI0.out | apply IsS64.alloc | apply IsS64.drewN | apply IsS64.drew | apply IsS64.set_1) | exact HI0.out)) (zR HO_5) (by decide)) hk (fun _ h => h.2)) (fun _ h => h.1)); have n1_ := Aside0.mk (KeepBut.trans (by repeat (first | (with_reducible first | exact HK.out | apply KeepBut.set_ | apply keep_drewN | apply keep_drew | apply keep_alloc) | exact HK.out)) hk (.inl rfl)); have n2_ := Aside0.mk (hb); have n3_ := Aside0.mk (hi); clear HO_5; clear HK; clear HB; clear HI0; have HO_5 := n0_; have HK := n1_; have HB := n2_; have HI0 := n3_; clear n0_ n1_ n2_ n3_; (try clear hb); (try clear hb2); (try clear hk); (try clear hi)) | ((with_reducible refine gate_builtin (b := .append) (xs := #[.tmp 13, .tmp 21]) rfl ?_); at_builtin; refine Kd.R_append k42 w.heap.size rfl (.tmp 13) (.tmp 21) 22 42 (.agg #[(.int .i64 0), (.int .i64 0)]) 16 rfl Tryd.underlying22 info42 rfl (by decide) (by omega) u5 x5_1 (⟨t561, t563⟩ : S42) [.int .i64 t561, .int .i64 t563] (fun _ => True) (fun _ => False) rfl rfl ?aP (fun _ hk => hk.elim) ?aF ?aO (Below.refl _ _) ?aS ?aL ?_; (case aP => exact k42_mkM _ _ _ (⟨t561, t563⟩ : S42)); (case aF => exact (fun _ _ => trivial)); (case aO => exact (zR HO_5)); (case aS => exact (keep_size (w := w) (g := g) (row := none) (by repeat (first | (with_reducible first | exact HK.out | apply KeepBut.set_ | apply keep_drewN | apply keep_drew | apply keep_alloc) | exact HK.out)))); (case aL => have := LMc8.out; omega); intro v566 w11 ho hb hg hat; rw [← Ny565.out] at ho; have n0_ := Aside0.mk (IsS64.grown (by repeat (first | (with_reducible first | exact HI0.out | apply IsS64.alloc | apply IsS64.drewN | apply IsS64.drew | apply IsS64.set_1) | exact HI0.out)) hg (IsS64.own_ne HI0.out HO_5.out (by decide))); have n1_ := Aside0.mk (below_weaken (by repeat (first | (with_reducible first | exact HB.out | apply below_alloc | apply pw_below_drewN | apply below_drew1 | refine below_set ?_ (IsS64.ge HI0.out)) | exact HB.out)) HL.out hb); have n2_ := Aside0.mk (KeepBut.trans (by repeat (first | (with_reducible first | exact HK.out | apply KeepBut.set_ | apply keep_drewN | apply keep_drew | apply keep_alloc) | exact HK.out)) (KeepBut.of_grown hg g) (Kd.R_base2 HO_5.out)); have n3_ := Aside0.mk (ho); clear HI0; clear HB; clear HK; clear HO_5; have HI0 := n0_; have HB := n1_; have HK := n2_; have HO567 := n3_; clear n0_ n1_ n2_ n3_; clear ho hb hg hat))
       go_roundg k1
       case measure => have := HK1.out; omega
       case rel => exact ⟨(y565), (wrap64 (x6_1 - 1)), (t564), (by first | rfl | (simp; done) | (simp [*]; done)), H', ⟨by have := HK1.out; omega⟩, ⟨zR HO567⟩, ⟨by repeat (first | (with_reducible first | exact HI0.out | apply IsS64.alloc | apply IsS64.drewN | apply IsS64.drew | apply IsS64.set_1) | exact HI0.out)⟩, ⟨by repeat (first | (with_reducible first | exact HK.out | apply KeepBut.set_ | apply keep_drewN | apply keep_drew | apply keep_alloc) | exact HK.out)⟩, ⟨by repeat (first | (with_reducible first | exact HB.out | apply below_alloc | apply pw_below_drewN | apply below_drew1 | refine below_set ?_ (IsS64.ge HI0.out)) | exact HB.out)⟩⟩
     · rw [if_neg c8] at H
       exact absurd H (by simp)
   · rw [if_neg c5] at H
     have c5b0 : decide (0 < x6_1) = false := decide_eq_false c5
     clear c5
     simp only [Option.some.injEq, Prod.mk.injEq] at H
     obtain ⟨rfl, rfl⟩ := H
     go_wp2
     go_ret
     exact ⟨_, by first | rfl | (simp [errW_none, errW_some] <;> rfl) | (simp [*, errW_none, errW_some] <;> rfl), by (with_reducible repeat (first | apply Kd.R_alloc | apply Kd.R_drewN | apply Kd.R_drew)); exact HO_5.out, by repeat (first | (with_reducible first | exact HI0.out | apply IsS64.alloc | apply IsS64.drewN | apply IsS64.drew | apply IsS64.set_1) | exact HI0.out), by repeat (first | (with_reducible first | exact HB.out | apply below_alloc | apply pw_below_drewN | apply below_drew1 | refine below_set ?_ (IsS64.ge HI0.out)) | exact HB.out), by repeat (first | (with_reducible first | exact HK.out | apply KeepBut.set_ | apply keep_drewN | apply keep_drew | apply keep_alloc) | exact HK.out)⟩
end Go.Proofs.YtjmdlmogdbhdhaaDoor.P
namespace Go.Proofs.YtjmdlmogdbhdhaaDoor.P
open Go.RowKit Go.Proofs.YtjmdlmogdbhdhaaDoorW.PrintWords Go.Proofs.YtjmdlmogdbhdhaaDoorW.PrintLast Go.Proofs.YtjmdlmogdbhdhaaDoorW.PrintMore
attribute [local go_sem] max2_int min2_int max_two min_two max_three min_three max_four min_four   -- for this text's walks alone
set_option linter.unusedVariables false
set_option linter.unusedSimpArgs false
/-! ### deliberationnet_Same: function 22 -/
def deliberationnet_Same.f (k : Nat) (a0_0 : Int) (l0_1 : List (S42)) (a1_0 : Int) (l1_1 : List (S42)) : Option (Bool) := if a0_0 = a1_0 then ((deliberationnet_Pairs.f k l0_1 l1_1).bind fun t570 => (some t570)) else (some false)
theorem deliberationnet_Same.mono : ∀ a0 a1 a2 a3 k, LeO (deliberationnet_Same.f k a0 a1 a2 a3) (deliberationnet_Same.f (k + 1) a0 a1 a2 a3) := by
 intro a0 a1 a2 a3 k
 unfold deliberationnet_Same.f
 repeat' first
  | (with_reducible exact deliberationnet_Pairs.mono _ _ _)
  | (with_reducible exact LeO.refl _)
  | (with_reducible exact LeO.none _)
  | (with_reducible refine LeO.ite ?_ ?_)
  | (with_reducible refine LeO.bind ?_ (fun _ => ?_))
  | exact deliberationnet_Pairs.mono _ _ _
  | exact LeO.none _
  | refine LeO.ite ?_ ?_
  | refine LeO.bind ?_ (fun _ => ?_)
set_option maxHeartbeats 8000000 in
set_option maxRecDepth 100000 in
theorem deliberationnet_Same.calls (k : Nat) (a0_0 : Int) (A0_1 : Option Addr) (c0_1 : Nat) (l0_1 : List (S42)) (a1_0 : Int) (A1_1 : Option Addr) (c1_1 : Nat) (l1_1 : List (S42)) (r : Bool) (w : World) (hr0_1 : Kd.C k42 w A0_1 l0_1.length l0_1) (hc0_1 : l0_1.length ≤ c0_1) (hr1_1 : Kd.C k42 w A1_1 l1_1.length l1_1) (hc1_1 : l1_1.length ≤ c1_1) (h : deliberationnet_Same.f k a0_0 l0_1 a1_0 l1_1 = some r) :
 Calls Tryd.prog 22 #[.agg #[.int .i64 a0_0, .slice A0_1 l0_1.length c0_1], .agg #[.int .i64 a1_0, .slice A1_1 l1_1.length c1_1]] w fun e w' => e = .returned (.bool r) ∧ Below w.heap.size w w' := by
 have hu24 := Tryd.underlying24
 have HR0_1 := Aside0.mk hr0_1
 have HC0_1 := Aside0.mk hc0_1
 clear hr0_1 hc0_1
 have HR1_1 := Aside0.mk hr1_1
 have HC1_1 := Aside0.mk hc1_1
 clear hr1_1 hc1_1
 have HB := Aside0.mk (Below.refl w.heap.size w)
 have H : (if a0_0 = a1_0 then ((deliberationnet_Pairs.f k l0_1 l1_1).bind fun t570 => (some t570)) else (some false)) = some r := h
 clear h
 by_cases c3 : a0_0 = a1_0
 · rw [if_pos c3] at H
   have c3b0 : (a0_0 == a1_0) = true := beq_iff_eq.mpr c3
   have c3b1 : (a0_0 != a1_0) = false := bne_eq_false_iff_eq.mpr c3
   clear c3
   replace H := Option.bind_eq_some_iff.mp H
   obtain ⟨t570, A40, H⟩ := H
   replace H : (some t570) = some r := H
   have A4 := Aside0.mk A40
   clear A40
   obtain rfl := Option.some.inj H
   go_enter Tryd.func22, Tryd.ntmps22
   go_wp2_with (first | ((with_reducible refine gate_dst (N := 2) rfl ?_); refine box_event ?hg (N := 2) ?hd (cs := #[.int .i64 a0_0, .slice A0_1 l0_1.length c0_1]) (t := 24) ?hr ?_; (case hd => rfl); (case hg => rfl); (case hr => first | (go_simp; done) | (go_simp; rfl)); intro gb568 hg w5 hbox hb; have n0_ := Aside0.mk (below_step (zB HB) hb); have n1_ := Aside0.mk (hbox); have n2_ := Aside0.mk ((by rw [hg]; exact (below_size (zB HB)) : w.heap.size ≤ gb568)); have n3_ := Aside0.mk ((by rw [hg]; exact (below_size (zB HB)) : w.heap.size ≤ gb568)); clear HB; have HB := n0_; have BK568 := n1_; have GW568 := n2_; have GE568 := n3_; clear n0_ n1_ n2_ n3_; clear hb hbox hg) | ((with_reducible refine gate_dst (N := 3) rfl ?_); refine box_event ?hg (N := 3) ?hd (cs := #[.int .i64 a1_0, .slice A1_1 l1_1.length c1_1]) (t := 24) ?hr ?_; (case hd => rfl); (case hg => rfl); (case hr => first | (go_simp; done) | (go_simp; rfl)); intro gb569 hg w6 hbox hb; have n0_ := Aside0.mk (blk_below (g := gb568) (o := .cells #[.int .i64 a0_0, .slice A0_1 l0_1.length c0_1] 24 (0, 0)) (zK BK568) hb); have n1_ := Aside0.mk (below_step (zB HB) hb); have n2_ := Aside0.mk (hbox); have n3_ := Aside0.mk ((by rw [hg]; exact (below_size (zB HB)) : w.heap.size ≤ gb569)); have n4_ := Aside0.mk ((by rw [hg]; exact (below_size (zB HB)) : w.heap.size ≤ gb569)); have n5_ := Aside0.mk ((by rw [hg]; exact Nat.ne_of_lt (blk_lt (g := gb568) (o := .cells #[.int .i64 a0_0, .slice A0_1 l0_1.length c0_1] 24 (0, 0)) (zK BK568)) : gb568 ≠ gb569)); have n6_ := Aside0.mk ((by rw [hg]; exact Nat.ne_of_gt (blk_lt (g := gb568) (o := .cells #[.int .i64 a0_0, .slice A0_1 l0_1.length c0_1] 24 (0, 0)) (zK BK568)) : gb569 ≠ gb568)); clear BK568; clear HB; have BK568 := n0_; have HB := n1_; have BK569 := n2_; have GW569 := n3_; have GE569 := n4_; have NB568_569 := n5_; have NB569_568 := n6_; clear n0_ n1_ n2_ n3_ n4_ n5_ n6_; clear hb hbox hg; have hnb7 := NB568_569.out; have hnc7 := NB569_568.out; have hcz8_0 : w6.cell? ⟨gb568, 0, none⟩ = some (.int .i64 a0_0) := (blk_cell BK568.out 0).trans rfl; have hcz8_1 : w6.cell? ⟨gb568, 1, none⟩ = some (.slice A0_1 l0_1.length c0_1) := (blk_cell BK568.out 1).trans rfl; have hfz8_0 := blk_frozen BK568.out 0; have hfz8_1 := blk_frozen BK568.out 1; have hcz9_0 : w6.cell? ⟨gb569, 0, none⟩ = some (.int .i64 a1_0) := (blk_cell BK569.out 0).trans rfl; have hcz9_1 : w6.cell? ⟨gb569, 1, none⟩ = some (.slice A1_1 l1_1.length c1_1) := (blk_cell BK569.out 1).trans rfl; have hfz9_0 := blk_frozen BK569.out 0; have hfz9_1 := blk_frozen BK569.out 1) | (go_at_call 31; (with_reducible refine (deliberationnet_Pairs.calls k _ _ l0_1 _ _ l1_1 t570 _ ?side1 ?side2 ?side3 ?side4 A4.out).mono ?_); (case side1 => repeat (first | exact (Kd.C_below HR0_1.out HB.out) | (with_reducible refine Kd.C_alloc ?_ _) | (with_reducible refine Kd.C_drewN ?_ _) | (with_reducible refine Kd.C_drew ?_))); (case side2 => exact HC0_1.out); (case side3 => repeat (first | exact (Kd.C_below HR1_1.out HB.out) | (with_reducible refine Kd.C_alloc ?_ _) | (with_reducible refine Kd.C_drewN ?_ _) | (with_reducible refine Kd.C_drew ?_))); (case side4 => exact HC1_1.out); rintro e w' ⟨rfl, ⟨nd, rfl⟩⟩))
   go_ret
   exact ⟨by first | rfl | (simp [errW_none, errW_some] <;> rfl) | (simp [*, errW_none, errW_some] <;> rfl), zB HB⟩
 · rw [if_neg c3] at H
   have c3b0 : (a0_0 == a1_0) = false := beq_eq_false_iff_ne.mpr c3
   have c3b1 : (a0_0 != a1_0) = true := bne_iff_ne.mpr c3
   obtain rfl := Option.some.inj H
   go_enter Tryd.func22, Tryd.ntmps22
   go_wp2_with (first | ((with_reducible refine gate_dst (N := 2) rfl ?_); refine box_event ?hg (N := 2) ?hd (cs := #[.int .i64 a0_0, .slice A0_1 l0_1.length c0_1]) (t := 24) ?hr ?_; (case hd => rfl); (case hg => rfl); (case hr => first | (go_simp; done) | (go_simp; rfl)); intro gb568 hg w10 hbox hb; have n0_ := Aside0.mk (below_step (zB HB) hb); have n1_ := Aside0.mk (hbox); have n2_ := Aside0.mk ((by rw [hg]; exact (below_size (zB HB)) : w.heap.size ≤ gb568)); have n3_ := Aside0.mk ((by rw [hg]; exact (below_size (zB HB)) : w.heap.size ≤ gb568)); clear HB; have HB := n0_; have BK568 := n1_; have GW568 := n2_; have GE568 := n3_; clear n0_ n1_ n2_ n3_; clear hb hbox hg) | ((with_reducible refine gate_dst (N := 3) rfl ?_); refine box_event ?hg (N := 3) ?hd (cs := #[.int .i64 a1_0, .slice A1_1 l1_1.length c1_1]) (t := 24) ?hr ?_; (case hd => rfl); (case hg => rfl); (case hr => first | (go_simp; done) | (go_simp; rfl)); intro gb569 hg w11 hbox hb; have n0_ := Aside0.mk (blk_below (g := gb568) (o := .cells #[.int .i64 a0_0, .slice A0_1 l0_1.length c0_1] 24 (0, 0)) (zK BK568) hb); have n1_ := Aside0.mk (below_step (zB HB) hb); have n2_ := Aside0.mk (hbox); have n3_ := Aside0.mk ((by rw [hg]; exact (below_size (zB HB)) : w.heap.size ≤ gb569)); have n4_ := Aside0.mk ((by rw [hg]; exact (below_size (zB HB)) : w.heap.size ≤ gb569)); have n5_ := Aside0.mk ((by rw [hg]; exact Nat.ne_of_lt (blk_lt (g := gb568) (o := .cells #[.int .i64 a0_0, .slice A0_1 l0_1.length c0_1] 24 (0, 0)) (zK BK568)) : gb568 ≠ gb569)); have n6_ := Aside0.mk ((by rw [hg]; exact Nat.ne_of_gt (blk_lt (g := gb568) (o := .cells #[.int .i64 a0_0, .slice A0_1 l0_1.length c0_1] 24 (0, 0)) (zK BK568)) : gb569 ≠ gb568)); clear BK568; clear HB; have BK568 := n0_; have HB := n1_; have BK569 := n2_; have GW569 := n3_; have GE569 := n4_; have NB568_569 := n5_; have NB569_568 := n6_; clear n0_ n1_ n2_ n3_ n4_ n5_ n6_; clear hb hbox hg; have hnb12 := NB568_569.out; have hnc12 := NB569_568.out; have hcz13_0 : w11.cell? ⟨gb568, 0, none⟩ = some (.int .i64 a0_0) := (blk_cell BK568.out 0).trans rfl; have hcz13_1 : w11.cell? ⟨gb568, 1, none⟩ = some (.slice A0_1 l0_1.length c0_1) := (blk_cell BK568.out 1).trans rfl; have hfz13_0 := blk_frozen BK568.out 0; have hfz13_1 := blk_frozen BK568.out 1; have hcz14_0 : w11.cell? ⟨gb569, 0, none⟩ = some (.int .i64 a1_0) := (blk_cell BK569.out 0).trans rfl; have hcz14_1 : w11.cell? ⟨gb569, 1, none⟩ = some (.slice A1_1 l1_1.length c1_1) := (blk_cell BK569.out 1).trans rfl; have hfz14_0 := blk_frozen BK569.out 0; have hfz14_1 := blk_frozen BK569.out 1))
   go_ret
   exact ⟨by first | rfl | (simp [errW_none, errW_some] <;> rfl) | (simp [*, errW_none, errW_some] <;> rfl), zB HB⟩
end Go.Proofs.YtjmdlmogdbhdhaaDoor.P
namespace Go.Proofs.YtjmdlmogdbhdhaaDoor.P
open Go.RowKit Go.Proofs.YtjmdlmogdbhdhaaDoorW.PrintWords Go.Proofs.YtjmdlmogdbhdhaaDoorW.PrintLast Go.Proofs.YtjmdlmogdbhdhaaDoorW.PrintMore
attribute [local go_sem] max2_int min2_int max_two min_two max_three min_three max_four min_four   -- for this text's walks alone
set_option linter.unusedVariables false
set_option linter.unusedSimpArgs false
/-! ### deliberationlaw21_EnforceUndone: function 4 -/
def deliberationlaw21_EnforceUndone.l0 : Nat → List (S42) → List (S42) → List (S42) → Int → Int → Int → List (S42) → Option (Bool)
 | 0, _, _, _, _, _, _, _ => none
 | k + 1, x5, x6, x22, x23, x24, x580000, x580001 => if x24 < x23 then (if 0 ≤ x24 then (if x24 < (x22.length : Int) then ((deliberationref21_Has.f k x5 ((rd_T42 x22 x24).f0) ((rd_T42 x22 x24).f1)).bind fun t586 => (if t586 = true then (deliberationlaw21_EnforceUndone.l0 k x5 x6 x22 x23 (wrap64 (x24 + 1)) x580000 x580001) else ((some (([(⟨(rd_T42 x22 x24).f0, (rd_T42 x22 x24).f1⟩ : S42)] : List (S42)) : List (S42))).bind fun y587 => (if x5.length + y587.length < 8796093022208 then ((some (([(⟨(rd_T42 x22 x24).f0, (rd_T42 x22 x24).f1⟩ : S42)] : List (S42)) : List (S42))).bind fun y593 => (if y593.length + x6.length < 8796093022208 then (deliberationlaw21_EnforceUndone.l0 k (x5 ++ y587) (y593 ++ x6) x22 x23 (wrap64 (x24 + 1)) x580000 x580001) else (none))) else (none))))) else (none)) else (none)) else ((enforce_Toggle.f k x580000 x580001 x5).bind fun bt599 => ((enforce_Toggle.f k x580000 x580001 x6).bind fun bt605 => ((enforce_Toggle.f k bt599.1 bt599.2.1 x5).bind fun bt611 => (if bt599.2.2 = 0 then (if bt605.2.2 = 0 then (if bt611.2.2 = 0 then ((deliberationnet_Same.f k bt599.1 bt599.2.1 bt605.1 bt605.2.1).bind fun t617 => (if t617 = true then ((deliberationnet_Same.f k bt611.1 bt611.2.1 x580000 x580001).bind fun t618 => (if t618 = true then ((deliberationlaw21_awake.f k).bind fun t619 => (some t619)) else (some false))) else (some false))) else (some false)) else (some false)) else (some false)))))
def deliberationlaw21_EnforceUndone.f (k : Nat) (l0 : List Int) : Option (Bool) := (deliberationkeep_New.f l0).bind fun bt571 => ((deliberationnet_Graph.f k bt571.1 bt571.2 8).bind fun bt574 => ((deliberationlaw21_pairs.f k bt571.1 bt574.2.2 bt574.1).bind fun bt580 => (deliberationlaw21_EnforceUndone.l0 k ([] : List (S42)) ([] : List (S42)) bt580.1 (bt580.1.length : Int) 0 bt574.1 bt574.2.1)))
theorem deliberationlaw21_EnforceUndone.mono_l : ∀ k, (∀ y0 y1 y2 y3 y4 y5 y6, LeO (deliberationlaw21_EnforceUndone.l0 k y0 y1 y2 y3 y4 y5 y6) (deliberationlaw21_EnforceUndone.l0 (k + 1) y0 y1 y2 y3 y4 y5 y6))
 | 0 => fun _ _ _ _ _ _ _ r h => by simp [deliberationlaw21_EnforceUndone.l0] at h
 | k + 1 => by
  have ih0 := deliberationlaw21_EnforceUndone.mono_l k
  · intro y0 y1 y2 y3 y4 y5 y6
    unfold deliberationlaw21_EnforceUndone.l0
    repeat' first
    | (with_reducible exact ih0 _ _ _ _ _ _ _)
    | (with_reducible exact deliberationlaw21_awake.mono _)
    | (with_reducible exact deliberationlaw21_pairs.mono _ _ _ _)
    | (with_reducible exact deliberationnet_Graph.mono _ _ _ _)
    | (with_reducible exact deliberationnet_Same.mono _ _ _ _ _)
    | (with_reducible exact deliberationref21_Has.mono _ _ _ _)
    | (with_reducible exact enforce_Toggle.mono _ _ _ _)
    | (with_reducible exact LeO.refl _)
    | (with_reducible exact LeO.none _)
    | (with_reducible refine LeO.ite ?_ ?_)
    | (with_reducible refine LeO.bind ?_ (fun _ => ?_))
    | exact ih0 _ _ _ _ _ _ _
    | exact deliberationlaw21_awake.mono _
    | exact deliberationlaw21_pairs.mono _ _ _ _
    | exact deliberationnet_Graph.mono _ _ _ _
    | exact deliberationnet_Same.mono _ _ _ _ _
    | exact deliberationref21_Has.mono _ _ _ _
    | exact enforce_Toggle.mono _ _ _ _
    | exact LeO.none _
    | refine LeO.ite ?_ ?_
    | refine LeO.bind ?_ (fun _ => ?_)
theorem deliberationlaw21_EnforceUndone.mono : ∀ a0 k, LeO (deliberationlaw21_EnforceUndone.f k a0) (deliberationlaw21_EnforceUndone.f (k + 1) a0) := by
 intro a0 k
 have ih0 := deliberationlaw21_EnforceUndone.mono_l k
 unfold deliberationlaw21_EnforceUndone.f
 repeat' first
  | (with_reducible exact ih0 _ _ _ _ _ _ _)
  | (with_reducible exact deliberationlaw21_awake.mono _)
  | (with_reducible exact deliberationlaw21_pairs.mono _ _ _ _)
  | (with_reducible exact deliberationnet_Graph.mono _ _ _ _)
  | (with_reducible exact deliberationnet_Same.mono _ _ _ _ _)
  | (with_reducible exact deliberationref21_Has.mono _ _ _ _)
  | (with_reducible exact enforce_Toggle.mono _ _ _ _)
  | (with_reducible exact LeO.refl _)
  | (with_reducible exact LeO.none _)
  | (with_reducible refine LeO.ite ?_ ?_)
  | (with_reducible refine LeO.bind ?_ (fun _ => ?_))
  | exact ih0 _ _ _ _ _ _ _
  | exact deliberationlaw21_awake.mono _
  | exact deliberationlaw21_pairs.mono _ _ _ _
  | exact deliberationnet_Graph.mono _ _ _ _
  | exact deliberationnet_Same.mono _ _ _ _ _
  | exact deliberationref21_Has.mono _ _ _ _
  | exact enforce_Toggle.mono _ _ _ _
  | exact LeO.none _
  | refine LeO.ite ?_ ?_
  | refine LeO.bind ?_ (fun _ => ?_)
def deliberationlaw21_EnforceUndone.T8 : Bool × List (List Nat × List Nat) := (true, [([], []), ([], []), ([1], [1]), ([0, 2], [0, 2]), ([], []), ([4], [4]), ([], []), ([5, 6, 3], [5, 6]), ([3, 7, 0, 1, 2, 3], [0, 3]), ([7, 8, 0, 1, 2, 3, 4, 5, 6, 7, 8], [6, 7])])
def deliberationlaw21_EnforceUndone.B8 : List Nat := [0, 0, 2, 7, 0, 16, 0, 127, 255, 511]
theorem deliberationlaw21_EnforceUndone.tab8 : rtab .any (opsOf Tryd.f4 8) = deliberationlaw21_EnforceUndone.T8 := by kernel_rfl
theorem deliberationlaw21_EnforceUndone.bits8 : waitsOk deliberationlaw21_EnforceUndone.T8.2 deliberationlaw21_EnforceUndone.B8 = true := by kernel_rfl
set_option maxHeartbeats 8000000 in
set_option maxRecDepth 100000 in
theorem deliberationlaw21_EnforceUndone.calls (k : Nat) (A0 : Option Addr) (c0 : Nat) (l0 : List Int) (w : World) (hr0 : Kd.C (Kd.int .i64) w A0 l0.length l0) (hc0 : l0.length ≤ c0) (hT : TabT w) (h : deliberationlaw21_EnforceUndone.f k l0 = some true) :
 Calls Tryd.prog 4 #[.slice A0 l0.length c0] w fun e w' => e = .returned (.bool true) ∧ Below w.heap.size w w' := by
 have hu24 := Tryd.underlying24
 have hu42 := Tryd.underlying42
 have HR0 := Aside0.mk hr0
 have HC0 := Aside0.mk hc0
 clear hr0 hc0
 have HTab := Aside0.mk hT
 clear hT
 have HB := Aside0.mk (Below.refl w.heap.size w)
 have H : ((deliberationkeep_New.f l0).bind fun bt571 => ((deliberationnet_Graph.f k bt571.1 bt571.2 8).bind fun bt574 => ((deliberationlaw21_pairs.f k bt571.1 bt574.2.2 bt574.1).bind fun bt580 => (deliberationlaw21_EnforceUndone.l0 k ([] : List (S42)) ([] : List (S42)) bt580.1 (bt580.1.length : Int) 0 bt574.1 bt574.2.1)))) = some true := h
 clear h
 replace H := Option.bind_eq_some_iff.mp H
 obtain ⟨⟨t571, t572⟩, A20, H⟩ := H
 replace H : ((deliberationnet_Graph.f k t571 t572 8).bind fun bt574 => ((deliberationlaw21_pairs.f k t571 bt574.2.2 bt574.1).bind fun bt580 => (deliberationlaw21_EnforceUndone.l0 k ([] : List (S42)) ([] : List (S42)) bt580.1 (bt580.1.length : Int) 0 bt574.1 bt574.2.1))) = some true := H
 have A2 := Aside0.mk A20
 clear A20
 replace H := Option.bind_eq_some_iff.mp H
 obtain ⟨⟨t574, t575, t578⟩, A30, H⟩ := H
 replace H : ((deliberationlaw21_pairs.f k t571 t578 t574).bind fun bt580 => (deliberationlaw21_EnforceUndone.l0 k ([] : List (S42)) ([] : List (S42)) bt580.1 (bt580.1.length : Int) 0 t574 t575)) = some true := H
 have A3 := Aside0.mk A30
 clear A30
 replace H := Option.bind_eq_some_iff.mp H
 obtain ⟨⟨t580, t583⟩, A40, H⟩ := H
 replace H : (deliberationlaw21_EnforceUndone.l0 k ([] : List (S42)) ([] : List (S42)) t580 (t580.length : Int) 0 t574 t575) = some true := H
 have A4 := Aside0.mk A40
 clear A40
 have H' := Aside0.mk H
 clear H
 go_enter Tryd.func4, Tryd.ntmps4
 go_wp2_with (first | ((with_reducible refine gate_callee (f := 11) rfl ?_); refine goesL_ (some 16) rfl rfl Tryd.func11 (by kernel_rfl) rfl #[.slice A0 l0.length c0] rfl (by (try simp only [List.map_toArray, List.map_cons, List.map_nil]); first | done | rfl | (simp only [List.length_drop, List.length_take]; rfl)) ?_; (with_reducible refine (deliberationkeep_New.calls _ _ l0 t571 t572 w _ ?side1 ?side2 ?side3 A2.out).mono ?_); (case side1 => repeat (first | (with_reducible first | exact HB.out | apply below_alloc | apply pw_below_drewN | apply below_drew1) | exact HB.out)); (case side2 => exact HR0.out); (case side3 => exact HC0.out); rintro e w5 ⟨g573, rfl, hi, hb, hb2⟩; refine ⟨_, rfl, ?_⟩; have n0_ := Aside0.mk (hb); have n1_ := Aside0.mk (hi); clear HB; have HB := n0_; have HI573 := n1_; clear n0_ n1_; (try clear hb); (try clear hb2); (try clear hk); (try clear hi)) | ((with_reducible refine gate_callee (f := 12) rfl ?_); refine goesL_ (some 18) rfl rfl Tryd.func12 (by kernel_rfl) rfl #[.pointer (some ⟨g573, 0, none⟩), .int .i64 8] rfl (by (try simp only [List.map_toArray, List.map_cons, List.map_nil]); first | done | rfl | (simp only [List.length_drop, List.length_take]; rfl)) ?_; (with_reducible refine (deliberationnet_Graph.calls k g573 t571 t572 8 t574 t575 t578 w _ ?side1 ?side2 A3.out).mono ?_); (case side1 => repeat (first | (with_reducible first | exact HI573.out | apply IsS64.alloc | apply IsS64.drewN | apply IsS64.drew | apply IsS64.set_1) | exact HI573.out)); (case side2 => repeat (first | (with_reducible first | exact HB.out | apply below_alloc | apply pw_below_drewN | apply below_drew1 | refine below_set ?_ (IsS64.ge HI573.out)) | exact HB.out)); rintro e w6 ⟨v576, rfl, ho0, hi, hb, hk⟩; refine ⟨_, rfl, ?_⟩; have n0_ := Aside0.mk (Kd.R_lower ho0 (below_size (by repeat (first | (with_reducible first | exact HB.out | apply below_alloc | apply pw_below_drewN | apply below_drew1 | refine below_set ?_ (IsS64.ge HI573.out)) | exact HB.out)))); have n1_ := Aside0.mk (hb); have n2_ := Aside0.mk (hi); clear HB; clear HI573; have HO577 := n0_; have HB := n1_; have HI573 := n2_; clear n0_ n1_ n2_; (try clear hb); (try clear hb2); (try clear hk); (try clear hi); (try clear ho0)) | ((with_reducible refine gate_dst (N := 4) rfl ?_); refine box_event ?hg (N := 4) ?hd (cs := #[.int .i64 0, .slice none 0 0]) (t := 24) ?hr ?_; (case hd => rfl); (case hg => rfl); (case hr => first | (go_simp; done) | (go_simp; rfl)); intro gb579 hg w7 hbox hb; have n0_ := Aside0.mk (Kd.R_below (zR HO577) hb); have n1_ := Aside0.mk (IsS64.below (by repeat (first | (with_reducible first | exact HI573.out | apply IsS64.alloc | apply IsS64.drewN | apply IsS64.drew | apply IsS64.set_1) | exact HI573.out)) hb); have n2_ := Aside0.mk (below_step (by repeat (first | (with_reducible first | exact HB.out | apply below_alloc | apply pw_below_drewN | apply below_drew1 | refine below_set ?_ (IsS64.ge HI573.out)) | exact HB.out)) hb); have n3_ := Aside0.mk (hbox); have n4_ := Aside0.mk ((by rw [hg]; exact (below_size (by repeat (first | (with_reducible first | exact HB.out | apply below_alloc | apply pw_below_drewN | apply below_drew1 | refine below_set ?_ (IsS64.ge HI573.out)) | exact HB.out))) : w.heap.size ≤ gb579)); have n5_ := Aside0.mk ((by rw [hg]; exact (below_size (by repeat (first | (with_reducible first | exact HB.out | apply below_alloc | apply pw_below_drewN | apply below_drew1 | refine below_set ?_ (IsS64.ge HI573.out)) | exact HB.out))) : w.heap.size ≤ gb579)); have n6_ := Aside0.mk ((by rw [hg]; exact Nat.ne_of_lt (IsS64.lt (show IsS64 w _ g573 t571 t578 from by repeat (first | (with_reducible first | exact HI573.out | apply IsS64.alloc | apply IsS64.drewN | apply IsS64.drew | apply IsS64.set_1) | exact HI573.out))) : g573 ≠ gb579)); have n7_ := Aside0.mk ((by rw [hg]; exact Nat.ne_of_gt (IsS64.lt (show IsS64 w _ g573 t571 t578 from by repeat (first | (with_reducible first | exact HI573.out | apply IsS64.alloc | apply IsS64.drewN | apply IsS64.drew | apply IsS64.set_1) | exact HI573.out))) : gb579 ≠ g573)); clear HO577; clear HI573; clear HB; have HO577 := n0_; have HI573 := n1_; have HB := n2_; have BK579 := n3_; have GW579 := n4_; have GE579 := n5_; have NB573_579 := n6_; have NB579_573 := n7_; clear n0_ n1_ n2_ n3_ n4_ n5_ n6_ n7_; clear hb hbox hg; have hnb8 := NB579_573.out; have hnc8 := NB573_579.out; have hcz9_0 : w7.cell? ⟨gb579, 0, none⟩ = some (.int .i64 0) := (blk_cell BK579.out 0).trans rfl; have hcz9_1 : w7.cell? ⟨gb579, 1, none⟩ = some (.slice none 0 0) := (blk_cell BK579.out 1).trans rfl; have hfz9_0 := blk_frozen BK579.out 0; have hfz9_1 := blk_frozen BK579.out 1; obtain ⟨Ao10, co10, eo10⟩ := Kd.R_slice HO577.out; subst eo10) | ((with_reducible refine gate_callee (f := 19) rfl ?_); refine goesL_ (some 22) rfl rfl Tryd.func19 (by kernel_rfl) rfl #[.pointer (some ⟨g573, 0, none⟩), .int .i64 t574] rfl (by (try simp only [List.map_toArray, List.map_cons, List.map_nil]); first | done | rfl | (simp only [List.length_drop, List.length_take]; rfl)) ?_; (with_reducible refine (deliberationlaw21_pairs.calls k g573 t571 t578 t574 t580 t583 w _ ?side1 ?side2 A4.out).mono ?_); (case side1 => repeat (first | (with_reducible first | exact HI573.out | apply IsS64.alloc | apply IsS64.drewN | apply IsS64.drew | apply IsS64.set_1 | refine IsS64.far ?_ NB573_579.out _) | exact HI573.out)); (case side2 => repeat (first | (with_reducible first | exact HB.out | apply below_alloc | apply pw_below_drewN | apply below_drew1 | refine below_set ?_ (IsS64.ge HI573.out) | refine below_set ?_ GE579.out) | exact HB.out)); rintro e w11 ⟨v581, rfl, ho0, hi, hb, hk⟩; refine ⟨_, rfl, ?_⟩; have n0_ := Aside0.mk (Kd.R_mono (Kd.R_told (Kd.R_oldK (IsS64.apart (show IsS64 w _ g573 t571 t578 from by repeat (first | (with_reducible first | exact HI573.out | apply IsS64.alloc | apply IsS64.drewN | apply IsS64.drew | apply IsS64.set_1 | refine IsS64.far ?_ NB573_579.out _) | exact HI573.out)) (by (with_reducible repeat (first | apply Kd.R_alloc | apply Kd.R_drewN | apply Kd.R_drew)); exact (Kd.R_mono (Kd.R_far (p := ⟨gb579, 1, none⟩) (Kd.R_far (p := ⟨gb579, 0, none⟩) (Kd.R_types HO577.out BK579.out (by decide)) (fun _ hk => hk.2) (.int .i64 t574)) (fun _ hk => hk.2) (.slice Ao10 t575.length co10)) (fun _ h_ => h_.1))) (by decide)) hk) (Kd.R_base ho0)) (fun _ h_ => h_.1)); have n1_ := Aside0.mk (KeepBut.blk hk (g' := gb579) (o := .cells #[.int .i64 t574, .slice Ao10 t575.length co10] 24 (0, 0)) (by (with_reducible repeat (first | refine blk_drewN ?_ _ | refine blk_drew ?_ | refine blk_alloc ?_ _)); refine blk_put (cs := #[.int .i64 t574, .slice none 0 0]) ?_ 1 _ rfl; (with_reducible repeat (first | refine blk_drewN ?_ _ | refine blk_drew ?_ | refine blk_alloc ?_ _)); refine blk_put (cs := #[.int .i64 0, .slice none 0 0]) ?_ 0 _ rfl; (with_reducible repeat (first | refine blk_drewN ?_ _ | refine blk_drew ?_ | refine blk_alloc ?_ _)); exact BK579.out) NB579_573.out (by simp)); have n2_ := Aside0.mk (Kd.R_lower (Kd.R_new' ho0 (Kd.R_lt (by (with_reducible repeat (first | apply Kd.R_alloc | apply Kd.R_drewN | apply Kd.R_drew)); exact (Kd.R_mono (Kd.R_far (p := ⟨gb579, 1, none⟩) (Kd.R_far (p := ⟨gb579, 0, none⟩) (Kd.R_types HO577.out BK579.out (by decide)) (fun _ hk => hk.2) (.int .i64 t574)) (fun _ hk => hk.2) (.slice Ao10 t575.length co10)) (fun _ h_ => h_.1))))) (below_size (by repeat (first | (with_reducible first | exact HB.out | apply below_alloc | apply pw_below_drewN | apply below_drew1 | refine below_set ?_ (IsS64.ge HI573.out) | refine below_set ?_ GE579.out) | exact HB.out)))); have n3_ := Aside0.mk (hb); have n4_ := Aside0.mk (hi); clear HO577; clear BK579; clear HB; clear HI573; have HO577 := n0_; have BK579 := n1_; have HO582 := n2_; have HB := n3_; have HI573 := n4_; clear n0_ n1_ n2_ n3_ n4_; (try clear hb); (try clear hb2); (try clear hk); (try clear hi); (try clear ho0); obtain ⟨Ao12, co12, eo12⟩ := Kd.R_slice HO582.out; subst eo12))
 go_loopg [5, 6, 24] k (fun kq v5 v6 v24 w' => ∃ (x5_1 : List (S42)) (x6_1 : List (S42)) (x24_1 : Int), v24 = .int .i64 x24_1 ∧ Aside0 (deliberationlaw21_EnforceUndone.l0 kq x5_1 x6_1 t580 (t580.length : Int) x24_1 t574 t575 = some true) ∧ Aside0 (kq ≤ k) ∧ Aside0 (Kd.R k42 42 w' w.heap.size (fun k_ => some k_ ≠ (v6 : Value).ownBlock ∧ some k_ ≠ ((.slice Ao12 t580.length co12) : Value).ownBlock ∧ some k_ ≠ ((.slice Ao10 t575.length co10) : Value).ownBlock) v5 x5_1) ∧ Aside0 (Kd.R k42 42 w' w.heap.size (fun k_ => some k_ ≠ (v5 : Value).ownBlock ∧ some k_ ≠ ((.slice Ao12 t580.length co12) : Value).ownBlock ∧ some k_ ≠ ((.slice Ao10 t575.length co10) : Value).ownBlock) v6 x6_1) ∧ Aside0 (Kd.R k42 42 w' w.heap.size (fun k_ => some k_ ≠ (v5 : Value).ownBlock ∧ some k_ ≠ (v6 : Value).ownBlock ∧ some k_ ≠ ((.slice Ao10 t575.length co10) : Value).ownBlock) (.slice Ao12 t580.length co12) t580) ∧ Aside0 (Kd.R k42 42 w' w.heap.size (fun k_ => some k_ ≠ (v5 : Value).ownBlock ∧ some k_ ≠ (v6 : Value).ownBlock ∧ some k_ ≠ ((.slice Ao12 t580.length co12) : Value).ownBlock) (.slice Ao10 t575.length co10) t575) ∧ Aside0 (w'.heap[gb579]? = some (.cells #[.int .i64 t574, (.slice Ao10 t575.length co10)] 24 (0, 0))) ∧ Aside0 (Below w.heap.size w w'))
 case atStart => exact ⟨(([] : List (S42))), (([] : List (S42))), (0), (by first | rfl | (simp; done) | (simp [*]; done)), H', ⟨Nat.le_refl _⟩, ⟨by first | exact Kd.R_nil _ _ _ _ _ | exact Kd.N_nil _ _ _ _ _ | exact Kd.V_nil _ _ _ _ _ | exact Kd.Q_nil _ _ _ _ _ | exact Kd.S_nil _ _ _ _ _ | exact Kd.R_nil _ _ _ 0 _⟩, ⟨by first | exact Kd.R_nil _ _ _ _ _ | exact Kd.N_nil _ _ _ _ _ | exact Kd.V_nil _ _ _ _ _ | exact Kd.Q_nil _ _ _ _ _ | exact Kd.S_nil _ _ _ _ _ | exact Kd.R_nil _ _ _ 0 _⟩, ⟨by (with_reducible repeat (first | apply Kd.R_alloc | apply Kd.R_drewN | apply Kd.R_drew)); exact Kd.R_mono HO582.out (fun _ hk => ⟨(by simp [Value.ownBlock]), ⟨(by simp [Value.ownBlock]), hk.2⟩⟩)⟩, ⟨by (with_reducible repeat (first | apply Kd.R_alloc | apply Kd.R_drewN | apply Kd.R_drew)); exact Kd.R_mono HO577.out (fun _ hk => ⟨(by simp [Value.ownBlock]), ⟨(by simp [Value.ownBlock]), hk.2⟩⟩)⟩, ⟨zK BK579⟩, ⟨by repeat (first | (with_reducible first | exact HB.out | apply below_alloc | apply pw_below_drewN | apply below_drew1 | refine below_set ?_ (IsS64.ge HI573.out) | refine below_set ?_ GE579.out) | exact HB.out)⟩⟩
 case round =>
  clear H'
  try clear c1
  try clear p2
  try clear c4
  try clear c8
  try clear c11
  try clear c12
  try clear hcz9_0
  try clear hcz9_1
  try clear hfz9_0
  try clear hfz9_1
  obtain ⟨x5_1, x6_1, x24_1, rfl, HA, HK1, HO_5, HO_6, HO_22, HO_580001, BK579, HB⟩ := hrel
  cases gk with
  | zero => exact absurd HA.out (by simp [deliberationlaw21_EnforceUndone.l0])
  | succ k1 =>
   have H := HA.out
   clear HA
   simp only [deliberationlaw21_EnforceUndone.l0] at H
   by_cases c13 : x24_1 < (t580.length : Int)
   · rw [if_pos c13] at H
     have c13b0 : decide (x24_1 < (t580.length : Int)) = true := decide_eq_true c13
     clear c13
     by_cases c14 : 0 ≤ x24_1
     · rw [if_pos c14] at H
       have c14b0 : decide (0 ≤ x24_1) = true := decide_eq_true c14
       clear c14
       by_cases c15 : x24_1 < (t580.length : Int)
       · rw [if_pos c15] at H
         have c15b0 : decide (x24_1 < (t580.length : Int)) = true := decide_eq_true c15
         clear c15
         replace H := Option.bind_eq_some_iff.mp H
         obtain ⟨t586, A160, H⟩ := H
         replace H : (if t586 = true then (deliberationlaw21_EnforceUndone.l0 k1 x5_1 x6_1 t580 (t580.length : Int) (wrap64 (x24_1 + 1)) t574 t575) else ((some (([(⟨(rd_T42 t580 x24_1).f0, (rd_T42 t580 x24_1).f1⟩ : S42)] : List (S42)) : List (S42))).bind fun y587 => (if x5_1.length + y587.length < 8796093022208 then ((some (([(⟨(rd_T42 t580 x24_1).f0, (rd_T42 t580 x24_1).f1⟩ : S42)] : List (S42)) : List (S42))).bind fun y593 => (if y593.length + x6_1.length < 8796093022208 then (deliberationlaw21_EnforceUndone.l0 k1 (x5_1 ++ y587) (y593 ++ x6_1) t580 (t580.length : Int) (wrap64 (x24_1 + 1)) t574 t575) else (none))) else (none)))) = some true := H
         have A16 := Aside0.mk A160
         clear A160
         by_cases c17 : t586 = true
         · subst c17
           have H1 : (deliberationlaw21_EnforceUndone.l0 k1 x5_1 x6_1 t580 (t580.length : Int) (wrap64 (x24_1 + 1)) t574 t575) = some true := by rw [if_pos rfl] at H; exact H
           clear H
           have H := H1
           clear H1
           have H' := Aside0.mk H
           clear H
           have p584 : 0 ≤ (x24_1 : Int) := of_decide_eq_true (by first | (with_reducible assumption) | assumption)
           have q584 : x24_1 < (t580.length : Int) := of_decide_eq_true (by first | (with_reducible assumption) | assumption)
           obtain ⟨ad584, e584, hx584_0, hx584_1⟩ := at_T42 (Kd.R_reads' HO_22.out).2.2 x24_1 p584 q584
           cases e584
           replace p584 := eq_true p584
           replace q584 := eq_true q584
           go_wp2_with (first | ((with_reducible refine gate_dst (N := 8) rfl ?_); refine box_event ?hg (N := 8) ?hd (cs := #[.int .i64 0, .int .i64 0]) (t := 42) ?hr ?_; (case hd => rfl); (case hg => rfl); (case hr => first | (go_simp; done) | (go_simp; rfl)); intro gb585 hg w18 hbox hb; have n0_ := Aside0.mk (Kd.R_below (Kd.R_elderB (zR HO_5) gb585 (Nat.le_of_eq hg.symm)) hb); have n1_ := Aside0.mk (Kd.R_below (Kd.R_elderB (zR HO_6) gb585 (Nat.le_of_eq hg.symm)) hb); have n2_ := Aside0.mk (Kd.R_below (Kd.R_elderB (zR HO_22) gb585 (Nat.le_of_eq hg.symm)) hb); have n3_ := Aside0.mk (Kd.R_below (Kd.R_elderB (zR HO_580001) gb585 (Nat.le_of_eq hg.symm)) hb); have n4_ := Aside0.mk (blk_below (g := gb579) (o := .cells #[.int .i64 t574, .slice Ao10 t575.length co10] 24 (0, 0)) (zK BK579) hb); have n5_ := Aside0.mk (below_step (zB HB) hb); have n6_ := Aside0.mk (hbox); have n7_ := Aside0.mk ((by rw [hg]; exact (below_size (zB HB)) : w.heap.size ≤ gb585)); have n8_ := Aside0.mk ((by rw [hg]; exact (below_size (zB HB)) : w.heap.size ≤ gb585)); have n9_ := Aside0.mk ((by rw [hg]; exact Nat.ne_of_lt (blk_lt (g := gb579) (o := .cells #[.int .i64 t574, .slice Ao10 t575.length co10] 24 (0, 0)) (zK BK579)) : gb579 ≠ gb585)); have n10_ := Aside0.mk ((by rw [hg]; exact Nat.ne_of_gt (blk_lt (g := gb579) (o := .cells #[.int .i64 t574, .slice Ao10 t575.length co10] 24 (0, 0)) (zK BK579)) : gb585 ≠ gb579)); clear HO_5; clear HO_6; clear HO_22; clear HO_580001; clear BK579; clear HB; have HO_5 := n0_; have HO_6 := n1_; have HO_22 := n2_; have HO_580001 := n3_; have BK579 := n4_; have HB := n5_; have BK585 := n6_; have GW585 := n7_; have GE585 := n8_; have NB579_585 := n9_; have NB585_579 := n10_; clear n0_ n1_ n2_ n3_ n4_ n5_ n6_ n7_ n8_ n9_ n10_; clear hb hbox hg; have hnb19 := NB585_579.out; have hnc19 := NB579_585.out; have hcz20_0 : w18.cell? ⟨gb585, 0, none⟩ = some (.int .i64 0) := (blk_cell BK585.out 0).trans rfl; have hcz20_1 : w18.cell? ⟨gb585, 1, none⟩ = some (.int .i64 0) := (blk_cell BK585.out 1).trans rfl; have hfz20_0 := blk_frozen BK585.out 0; have hfz20_1 := blk_frozen BK585.out 1; obtain ⟨Ao21, co21, eo21⟩ := Kd.R_slice HO_5.out; subst eo21) | ((with_reducible refine gate_callee (f := 20) rfl ?_); refine goesL_ (some 30) rfl rfl Tryd.func20 (by kernel_rfl) rfl #[.slice Ao21 x5_1.length co21, .agg #[.int .i64 ((rd_T42 t580 x24_1).f0), .int .i64 ((rd_T42 t580 x24_1).f1)]] rfl (by (try simp only [List.map_toArray, List.map_cons, List.map_nil]); first | done | rfl | (simp only [List.length_drop, List.length_take]; rfl)) ?_; (with_reducible refine (deliberationref21_Has.calls k1 _ _ x5_1 ((rd_T42 t580 x24_1).f0) ((rd_T42 t580 x24_1).f1) true _ ?side1 ?side2 A16.out).mono ?_); (case side1 => refine (Kd.R_reads' (e := 42) (base := w.heap.size) (ok := fun k_ => ((some k_ ≠ (u6 : Value).ownBlock ∧ (some k_ ≠ (.slice (some ad584) t580.length co12 : Value).ownBlock ∧ some k_ ≠ (.slice Ao10 t575.length co10 : Value).ownBlock)) ∧ k_ ≠ gb585)) (n := x5_1.length) (c := co21) ?_).2.2; exact (by (with_reducible repeat (first | apply Kd.R_alloc | apply Kd.R_drewN | apply Kd.R_drew)); exact (Kd.R_mono (Kd.R_far (p := ⟨gb585, 1, none⟩) (Kd.R_far (p := ⟨gb585, 0, none⟩) (Kd.R_mono HO_5.out (fun k_ hk => (⟨hk, hk.2⟩ : _ ∧ k_ ≠ gb585))) (fun _ hk => hk.2) (.int .i64 ((rd_T42 t580 x24_1).f0))) (fun _ hk => hk.2) (.int .i64 ((rd_T42 t580 x24_1).f1))) (fun _ h_ => h_.1)))); (case side2 => exact (Kd.R_reads' HO_5.out).2.1); rintro e w22 ⟨rfl, hb⟩; refine ⟨_, rfl, ?_⟩; have n0_ := Aside0.mk (Kd.R_below (by (with_reducible repeat (first | apply Kd.R_alloc | apply Kd.R_drewN | apply Kd.R_drew)); exact (Kd.R_mono (Kd.R_far (p := ⟨gb585, 1, none⟩) (Kd.R_far (p := ⟨gb585, 0, none⟩) (Kd.R_mono HO_5.out (fun k_ hk => (⟨hk, hk.2⟩ : _ ∧ k_ ≠ gb585))) (fun _ hk => hk.2) (.int .i64 ((rd_T42 t580 x24_1).f0))) (fun _ hk => hk.2) (.int .i64 ((rd_T42 t580 x24_1).f1))) (fun _ h_ => h_.1))) hb); have n1_ := Aside0.mk (Kd.R_below (by (with_reducible repeat (first | apply Kd.R_alloc | apply Kd.R_drewN | apply Kd.R_drew)); exact (Kd.R_mono (Kd.R_far (p := ⟨gb585, 1, none⟩) (Kd.R_far (p := ⟨gb585, 0, none⟩) (Kd.R_mono HO_6.out (fun k_ hk => (⟨hk, hk.2⟩ : _ ∧ k_ ≠ gb585))) (fun _ hk => hk.2) (.int .i64 ((rd_T42 t580 x24_1).f0))) (fun _ hk => hk.2) (.int .i64 ((rd_T42 t580 x24_1).f1))) (fun _ h_ => h_.1))) hb); have n2_ := Aside0.mk (Kd.R_below (by (with_reducible repeat (first | apply Kd.R_alloc | apply Kd.R_drewN | apply Kd.R_drew)); exact (Kd.R_mono (Kd.R_far (p := ⟨gb585, 1, none⟩) (Kd.R_far (p := ⟨gb585, 0, none⟩) (Kd.R_mono HO_22.out (fun k_ hk => (⟨hk, hk.2⟩ : _ ∧ k_ ≠ gb585))) (fun _ hk => hk.2) (.int .i64 ((rd_T42 t580 x24_1).f0))) (fun _ hk => hk.2) (.int .i64 ((rd_T42 t580 x24_1).f1))) (fun _ h_ => h_.1))) hb); have n3_ := Aside0.mk (Kd.R_below (by (with_reducible repeat (first | apply Kd.R_alloc | apply Kd.R_drewN | apply Kd.R_drew)); exact (Kd.R_mono (Kd.R_far (p := ⟨gb585, 1, none⟩) (Kd.R_far (p := ⟨gb585, 0, none⟩) (Kd.R_mono HO_580001.out (fun k_ hk => (⟨hk, hk.2⟩ : _ ∧ k_ ≠ gb585))) (fun _ hk => hk.2) (.int .i64 ((rd_T42 t580 x24_1).f0))) (fun _ hk => hk.2) (.int .i64 ((rd_T42 t580 x24_1).f1))) (fun _ h_ => h_.1))) hb); have n4_ := Aside0.mk (blk_below (g := gb579) (o := .cells #[.int .i64 t574, .slice Ao10 t575.length co10] 24 (0, 0)) (by (with_reducible repeat (first | refine blk_drewN ?_ _ | refine blk_drew ?_ | refine blk_alloc ?_ _)); refine blk_far ?_ NB579_585.out _; (with_reducible repeat (first | refine blk_drewN ?_ _ | refine blk_drew ?_ | refine blk_alloc ?_ _)); refine blk_far ?_ NB579_585.out _; (with_reducible repeat (first | refine blk_drewN ?_ _ | refine blk_drew ?_ | refine blk_alloc ?_ _)); exact BK579.out) hb); have n5_ := Aside0.mk (blk_below (g := gb585) (o := .cells #[.int .i64 ((rd_T42 t580 x24_1).f0), .int .i64 ((rd_T42 t580 x24_1).f1)] 42 (0, 0)) (by (with_reducible repeat (first | refine blk_drewN ?_ _ | refine blk_drew ?_ | refine blk_alloc ?_ _)); refine blk_put (cs := #[.int .i64 ((rd_T42 t580 x24_1).f0), .int .i64 0]) ?_ 1 _ rfl; (with_reducible repeat (first | refine blk_drewN ?_ _ | refine blk_drew ?_ | refine blk_alloc ?_ _)); refine blk_put (cs := #[.int .i64 0, .int .i64 0]) ?_ 0 _ rfl; (with_reducible repeat (first | refine blk_drewN ?_ _ | refine blk_drew ?_ | refine blk_alloc ?_ _)); exact BK585.out) hb); have n6_ := Aside0.mk (below_step (zB HB) hb); clear HO_5; clear HO_6; clear HO_22; clear HO_580001; clear BK579; clear BK585; clear HB; have HO_5 := n0_; have HO_6 := n1_; have HO_22 := n2_; have HO_580001 := n3_; have BK579 := n4_; have BK585 := n5_; have HB := n6_; clear n0_ n1_ n2_ n3_ n4_ n5_ n6_; (try clear hb); (try clear hb2); (try clear hk); (try clear hi)))
           go_roundg k1
           case measure => have := HK1.out; omega
           case rel => exact ⟨(x5_1), (x6_1), (wrap64 (x24_1 + 1)), (by first | rfl | (simp; done) | (simp [*]; done)), H', ⟨by have := HK1.out; omega⟩, ⟨by (with_reducible repeat (first | apply Kd.R_alloc | apply Kd.R_drewN | apply Kd.R_drew)); exact Kd.R_mono HO_5.out (fun _ hk => ⟨hk.1.1, ⟨hk.1.2.1, hk.1.2.2⟩⟩)⟩, ⟨by (with_reducible repeat (first | apply Kd.R_alloc | apply Kd.R_drewN | apply Kd.R_drew)); exact Kd.R_mono HO_6.out (fun _ hk => ⟨hk.1.1, ⟨hk.1.2.1, hk.1.2.2⟩⟩)⟩, ⟨by (with_reducible repeat (first | apply Kd.R_alloc | apply Kd.R_drewN | apply Kd.R_drew)); exact Kd.R_mono HO_22.out (fun _ hk => ⟨hk.1.1, ⟨hk.1.2.1, hk.1.2.2⟩⟩)⟩, ⟨by (with_reducible repeat (first | apply Kd.R_alloc | apply Kd.R_drewN | apply Kd.R_drew)); exact Kd.R_mono HO_580001.out (fun _ hk => ⟨hk.1.1, ⟨hk.1.2.1, hk.1.2.2⟩⟩)⟩, ⟨zK BK579⟩, ⟨zB HB⟩⟩
         · replace c17 := Bool.eq_false_iff.mpr c17
           subst c17
           have H1 : ((some (([(⟨(rd_T42 t580 x24_1).f0, (rd_T42 t580 x24_1).f1⟩ : S42)] : List (S42)) : List (S42))).bind fun y587 => (if x5_1.length + y587.length < 8796093022208 then ((some (([(⟨(rd_T42 t580 x24_1).f0, (rd_T42 t580 x24_1).f1⟩ : S42)] : List (S42)) : List (S42))).bind fun y593 => (if y593.length + x6_1.length < 8796093022208 then (deliberationlaw21_EnforceUndone.l0 k1 (x5_1 ++ y587) (y593 ++ x6_1) t580 (t580.length : Int) (wrap64 (x24_1 + 1)) t574 t575) else (none))) else (none))) = some true := by rw [if_neg (show ¬ (false = true) by decide)] at H; exact H
           clear H
           have H := H1
           clear H1
           obtain ⟨y587, hy587⟩ : ∃ y_ : List (S42), y_ = (([(⟨(rd_T42 t580 x24_1).f0, (rd_T42 t580 x24_1).f1⟩ : S42)] : List (S42))) := ⟨_, rfl⟩
           replace H : (if x5_1.length + y587.length < 8796093022208 then ((some (([(⟨(rd_T42 t580 x24_1).f0, (rd_T42 t580 x24_1).f1⟩ : S42)] : List (S42)) : List (S42))).bind fun y593 => (if y593.length + x6_1.length < 8796093022208 then (deliberationlaw21_EnforceUndone.l0 k1 (x5_1 ++ y587) (y593 ++ x6_1) t580 (t580.length : Int) (wrap64 (x24_1 + 1)) t574 t575) else (none))) else (none)) = some true := by first | (rw [hy587]; with_reducible exact H) | (have H2_ := (Option.bind_some _ _).symm.trans H; rw [hy587]; with_reducible exact H2_) | (have H2_ := (Option.bind_some _ _).symm.trans H; with_reducible exact H2_) | with_reducible exact H | (rw [hy587]; exact H) | exact H
           have Ny587 := Aside0.mk hy587
           clear hy587
           by_cases c23 : x5_1.length + y587.length < 8796093022208
           · rw [if_pos c23] at H
             have LMc23 := Aside0.mk c23
             clear c23
             obtain ⟨y590, hy590⟩ : ∃ y_ : List (S42), y_ = (x5_1 ++ y587) := ⟨_, rfl⟩
             replace H : ((some (([(⟨(rd_T42 t580 x24_1).f0, (rd_T42 t580 x24_1).f1⟩ : S42)] : List (S42)) : List (S42))).bind fun y593 => (if y593.length + x6_1.length < 8796093022208 then (deliberationlaw21_EnforceUndone.l0 k1 y590 (y593 ++ x6_1) t580 (t580.length : Int) (wrap64 (x24_1 + 1)) t574 t575) else (none))) = some true := by first | (rw [hy590]; with_reducible exact H) | (have H2_ := (Option.bind_some _ _).symm.trans H; rw [hy590]; with_reducible exact H2_) | (have H2_ := (Option.bind_some _ _).symm.trans H; with_reducible exact H2_) | with_reducible exact H | (rw [hy590]; exact H) | exact H
             have Ny590 := Aside0.mk hy590
             clear hy590
             obtain ⟨y593, hy593⟩ : ∃ y_ : List (S42), y_ = (([(⟨(rd_T42 t580 x24_1).f0, (rd_T42 t580 x24_1).f1⟩ : S42)] : List (S42))) := ⟨_, rfl⟩
             replace H : (if y593.length + x6_1.length < 8796093022208 then (deliberationlaw21_EnforceUndone.l0 k1 y590 (y593 ++ x6_1) t580 (t580.length : Int) (wrap64 (x24_1 + 1)) t574 t575) else (none)) = some true := by first | (rw [hy593]; with_reducible exact H) | (have H2_ := (Option.bind_some _ _).symm.trans H; rw [hy593]; with_reducible exact H2_) | (have H2_ := (Option.bind_some _ _).symm.trans H; with_reducible exact H2_) | with_reducible exact H | (rw [hy593]; exact H) | exact H
             have Ny593 := Aside0.mk hy593
             clear hy593
             by_cases c24 : y593.length + x6_1.length < 8796093022208
             · rw [if_pos c24] at H
               have LMc24 := Aside0.mk c24
               clear c24
               obtain ⟨y596, hy596⟩ : ∃ y_ : List (S42), y_ = (y593 ++ x6_1) := ⟨_, rfl⟩
               replace H : (deliberationlaw21_EnforceUndone.l0 k1 y590 y596 t580 (t580.length : Int) (wrap64 (x24_1 + 1)) t574 t575) = some true := by first | (rw [hy596]; with_reducible exact H) | (have H2_ := (Option.bind_some _ _).symm.trans H; rw [hy596]; with_reducible exact H2_) | (have H2_ := (Option.bind_some _ _).symm.trans H; with_reducible exact H2_) | with_reducible exact H | (rw [hy596]; exact H) | exact H
               have Ny596 := Aside0.mk hy596
               clear hy596
               have H' := Aside0.mk H
               clear H
               have p584 : 0 ≤ (x24_1 : Int) := of_decide_eq_true (by first | (with_reducible assumption) | assumption)
               have q584 : x24_1 < (t580.length : Int) := of_decide_eq_true (by first | (with_reducible assumption) | assumption)
               obtain ⟨ad584, e584, hx584_0, hx584_1⟩ := at_T42 (Kd.R_reads' HO_22.out).2.2 x24_1 p584 q584
               cases e584
               replace p584 := eq_true p584
               replace q584 := eq_true q584
               try go_wp2_with (first | ((with_reducible refine gate_dst (N := 8) rfl ?_); refine box_event ?hg (N := 8) ?hd (cs := #[.int .i64 0, .int .i64 0]) (t := 42) ?hr ?_; (case hd => rfl); (case hg => rfl); (case hr => first | (go_simp; done) | (go_simp; rfl)); intro gb585 hg w25 hbox hb; have n0_ := Aside0.mk (Kd.R_below (Kd.R_elderB (zR HO_5) gb585 (Nat.le_of_eq hg.symm)) hb); have n1_ := Aside0.mk (Kd.R_below (Kd.R_elderB (zR HO_6) gb585 (Nat.le_of_eq hg.symm)) hb); have n2_ := Aside0.mk (Kd.R_below (Kd.R_elderB (zR HO_22) gb585 (Nat.le_of_eq hg.symm)) hb); have n3_ := Aside0.mk (Kd.R_below (Kd.R_elderB (zR HO_580001) gb585 (Nat.le_of_eq hg.symm)) hb); have n4_ := Aside0.mk (blk_below (g := gb579) (o := .cells #[.int .i64 t574, .slice Ao10 t575.length co10] 24 (0, 0)) (zK BK579) hb); have n5_ := Aside0.mk (below_step (zB HB) hb); have n6_ := Aside0.mk (hbox); have n7_ := Aside0.mk ((by rw [hg]; exact (below_size (zB HB)) : w.heap.size ≤ gb585)); have n8_ := Aside0.mk ((by rw [hg]; exact (below_size (zB HB)) : w.heap.size ≤ gb585)); have n9_ := Aside0.mk ((by rw [hg]; exact Nat.ne_of_lt (blk_lt (g := gb579) (o := .cells #[.int .i64 t574, .slice Ao10 t575.length co10] 24 (0, 0)) (zK BK579)) : gb579 ≠ gb585)); have n10_ := Aside0.mk ((by rw [hg]; exact Nat.ne_of_gt (blk_lt (g := gb579) (o := .cells #[.int .i64 t574, .slice Ao10 t575.length co10] 24 (0, 0)) (zK BK579)) : gb585 ≠ gb579)); clear HO_5; clear HO_6; clear HO_22; clear HO_580001; clear BK579; clear HB; have HO_5 := n0_; have HO_6 := n1_; have HO_22 := n2_; have HO_580001 := n3_; have BK579 := n4_; have HB := n5_; have BK585 := n6_; have GW585 := n7_; have GE585 := n8_; have NB579_585 := n9_; have NB585_579 := n10_; clear n0_ n1_ n2_ n3_ n4_ n5_ n6_ n7_ n8_ n9_ n10_; clear hb hbox hg; have hnb26 := NB585_579.out; have hnc26 := NB579_585.out; have hcz27_0 : w25.cell? ⟨gb585, 0, none⟩ = some (.int .i64 0) := (blk_cell BK585.out 0).trans rfl; have hcz27_1 : w25.cell? ⟨gb585, 1, none⟩ = some (.int .i64 0) := (blk_cell BK585.out 1).trans rfl; have hfz27_0 := blk_frozen BK585.out 0; have hfz27_1 := blk_frozen BK585.out 1; obtain ⟨Ao28, co28, eo28⟩ := Kd.R_slice HO_5.out; subst eo28) | ((with_reducible refine gate_callee (f := 20) rfl ?_); refine goesL_ (some 30) rfl rfl Tryd.func20 (by kernel_rfl) rfl #[.slice Ao28 x5_1.length co28, .agg #[.int .i64 ((rd_T42 t580 x24_1).f0), .int .i64 ((rd_T42 t580 x24_1).f1)]] rfl (by (try simp only [List.map_toArray, List.map_cons, List.map_nil]); first | done | rfl | (simp only [List.length_drop, List.length_take]; rfl)) ?_; (with_reducible refine (deliberationref21_Has.calls k1 _ _ x5_1 ((rd_T42 t580 x24_1).f0) ((rd_T42 t580 x24_1).f1) false _ ?side1 ?side2 A16.out).mono ?_); (case side1 => refine (Kd.R_reads' (e := 42) (base := w.heap.size) (ok := fun k_ => ((some k_ ≠ (u6 : Value).ownBlock ∧ (some k_ ≠ (.slice (some ad584) t580.length co12 : Value).ownBlock ∧ some k_ ≠ (.slice Ao10 t575.length co10 : Value).ownBlock)) ∧ k_ ≠ gb585)) (n := x5_1.length) (c := co28) ?_).2.2; exact (by (with_reducible repeat (first | apply Kd.R_alloc | apply Kd.R_drewN | apply Kd.R_drew)); exact (Kd.R_mono (Kd.R_far (p := ⟨gb585, 1, none⟩) (Kd.R_far (p := ⟨gb585, 0, none⟩) (Kd.R_mono HO_5.out (fun k_ hk => (⟨hk, hk.2⟩ : _ ∧ k_ ≠ gb585))) (fun _ hk => hk.2) (.int .i64 ((rd_T42 t580 x24_1).f0))) (fun _ hk => hk.2) (.int .i64 ((rd_T42 t580 x24_1).f1))) (fun _ h_ => h_.1)))); (case side2 => exact (Kd.R_reads' HO_5.out).2.1); rintro e w29 ⟨rfl, hb⟩; refine ⟨_, rfl, ?_⟩; have n0_ := Aside0.mk (Kd.R_below (by (with_reducible repeat (first | apply Kd.R_alloc | apply Kd.R_drewN | apply Kd.R_drew)); exact (Kd.R_mono (Kd.R_far (p := ⟨gb585, 1, none⟩) (Kd.R_far (p := ⟨gb585, 0, none⟩) (Kd.R_mono HO_5.out (fun k_ hk => (⟨hk, hk.2⟩ : _ ∧ k_ ≠ gb585))) (fun _ hk => hk.2) (.int .i64 ((rd_T42 t580 x24_1).f0))) (fun _ hk => hk.2) (.int .i64 ((rd_T42 t580 x24_1).f1))) (fun _ h_ => h_.1))) hb); have n1_ := Aside0.mk (Kd.R_below (by (with_reducible repeat (first | apply Kd.R_alloc | apply Kd.R_drewN | apply Kd.R_drew)); exact (Kd.R_mono (Kd.R_far (p := ⟨gb585, 1, none⟩) (Kd.R_far (p := ⟨gb585, 0, none⟩) (Kd.R_mono HO_6.out (fun k_ hk => (⟨hk, hk.2⟩ : _ ∧ k_ ≠ gb585))) (fun _ hk => hk.2) (.int .i64 ((rd_T42 t580 x24_1).f0))) (fun _ hk => hk.2) (.int .i64 ((rd_T42 t580 x24_1).f1))) (fun _ h_ => h_.1))) hb); have n2_ := Aside0.mk (Kd.R_below (by (with_reducible repeat (first | apply Kd.R_alloc | apply Kd.R_drewN | apply Kd.R_drew)); exact (Kd.R_mono (Kd.R_far (p := ⟨gb585, 1, none⟩) (Kd.R_far (p := ⟨gb585, 0, none⟩) (Kd.R_mono HO_22.out (fun k_ hk => (⟨hk, hk.2⟩ : _ ∧ k_ ≠ gb585))) (fun _ hk => hk.2) (.int .i64 ((rd_T42 t580 x24_1).f0))) (fun _ hk => hk.2) (.int .i64 ((rd_T42 t580 x24_1).f1))) (fun _ h_ => h_.1))) hb); have n3_ := Aside0.mk (Kd.R_below (by (with_reducible repeat (first | apply Kd.R_alloc | apply Kd.R_drewN | apply Kd.R_drew)); exact (Kd.R_mono (Kd.R_far (p := ⟨gb585, 1, none⟩) (Kd.R_far (p := ⟨gb585, 0, none⟩) (Kd.R_mono HO_580001.out (fun k_ hk => (⟨hk, hk.2⟩ : _ ∧ k_ ≠ gb585))) (fun _ hk => hk.2) (.int .i64 ((rd_T42 t580 x24_1).f0))) (fun _ hk => hk.2) (.int .i64 ((rd_T42 t580 x24_1).f1))) (fun _ h_ => h_.1))) hb); have n4_ := Aside0.mk (blk_below (g := gb579) (o := .cells #[.int .i64 t574, .slice Ao10 t575.length co10] 24 (0, 0)) (by (with_reducible repeat (first | refine blk_drewN ?_ _ | refine blk_drew ?_ | refine blk_alloc ?_ _)); refine blk_far ?_ NB579_585.out _; (with_reducible repeat (first | refine blk_drewN ?_ _ | refine blk_drew ?_ | refine blk_alloc ?_ _)); refine blk_far ?_ NB579_585.out _; (with_reducible repeat (first | refine blk_drewN ?_ _ | refine blk_drew ?_ | refine blk_alloc ?_ _)); exact BK579.out) hb); have n5_ := Aside0.mk (blk_below (g := gb585) (o := .cells #[.int .i64 ((rd_T42 t580 x24_1).f0), .int .i64 ((rd_T42 t580 x24_1).f1)] 42 (0, 0)) (by (with_reducible repeat (first | refine blk_drewN ?_ _ | refine blk_drew ?_ | refine blk_alloc ?_ _)); refine blk_put (cs := #[.int .i64 ((rd_T42 t580 x24_1).f0), .int .i64 0]) ?_ 1 _ rfl; (with_reducible repeat (first | refine blk_drewN ?_ _ | refine blk_drew ?_ | refine blk_alloc ?_ _)); refine blk_put (cs := #[.int .i64 0, .int .i64 0]) ?_ 0 _ rfl; (with_reducible repeat (first | refine blk_drewN ?_ _ | refine blk_drew ?_ | refine blk_alloc ?_ _)); exact BK585.out) hb); have n6_ := Aside0.mk (below_step (zB HB) hb); clear HO_5; clear HO_6; clear HO_22; clear HO_580001; clear BK579; clear BK585; clear HB; have HO_5 := n0_; have HO_6 := n1_; have HO_22 := n2_; have HO_580001 := n3_; have BK579 := n4_; have BK585 := n5_; have HB := n6_; clear n0_ n1_ n2_ n3_ n4_ n5_ n6_; (try clear hb); (try clear hb2); (try clear hk); (try clear hi); obtain ⟨Ao30, co30, eo30⟩ := Kd.R_slice HO_6.out; subst eo30))
               have n0_ := Aside0.mk (Kd.R_drew HO_5.out)
               have n1_ := Aside0.mk (Kd.R_drew HO_6.out)
               have n2_ := Aside0.mk (Kd.R_drew HO_22.out)
               have n3_ := Aside0.mk (Kd.R_drew HO_580001.out)
               have n4_ := Aside0.mk (blk_drew BK579.out)
               have n5_ := Aside0.mk (blk_drew BK585.out)
               have n6_ := Aside0.mk (below_drew1 HB.out)
               clear HO_5
               clear HO_6
               clear HO_22
               clear HO_580001
               clear BK579
               clear BK585
               clear HB
               have HO_5 := n0_
               have HO_6 := n1_
               have HO_22 := n2_
               have HO_580001 := n3_
               have BK579 := n4_
               have BK585 := n5_
               have HB := n6_
               clear n0_ n1_ n2_ n3_ n4_ n5_ n6_
               refine start_ (n := 10) (S := fun w' => w'.cell? ⟨gb585, 0, none⟩ = some (.int .i64 ((rd_T42 t580 x24_1).f0)) ∧ w'.cell? ⟨gb585, 1, none⟩ = some (.int .i64 ((rd_T42 t580 x24_1).f1))) (ds := []) #[false, false, false, false, false, false, false, false, false, false] (by kernel_rfl) rfl rfl ⟨(blk_cell BK585.out 0).trans rfl, (blk_cell BK585.out 1).trans rfl⟩ (fun hHeld => ?_); refine with_tabW deliberationlaw21_EnforceUndone.tab8 deliberationlaw21_EnforceUndone.bits8 (fun HT_ HW_ => ?_)
               generalize w29.drew = w31 at HO_5 HO_6 HO_22 HO_580001 BK579 BK585 HB hHeld ⊢
               refine pure_ (i := 0) (N := some 32) (v := ?_) (a' := ?_) #[true, false, false, false, false, false, false, false, false, false] rfl rfl (any_of HT_.out (by kernel_rfl)) (fun _ _ _ h => h) (Or.inl ⟨by rfl, ?_⟩) ?_ ?_
               rotate_left
               · intro w'
                 go_simp
                 with_reducible rfl
               rotate_left
               · simp only [Act.put, List.setIfInBounds_toArray, List.set_cons_zero, List.set_cons_succ, i64_w, i32_w]
                 rfl
               refine pure_ (i := 6) (N := some 38) (v := ?_) (a' := ?_) #[true, false, false, false, false, false, true, false, false, false] rfl rfl (any_of HT_.out (by kernel_rfl)) (fun _ _ _ h => h) (Or.inl ⟨by rfl, ?_⟩) ?_ ?_
               rotate_left
               · intro w'
                 go_simp
                 with_reducible rfl
               rotate_left
               · simp only [Act.put, List.setIfInBounds_toArray, List.set_cons_zero, List.set_cons_succ, i64_w, i32_w]
                 rfl
               refine take_ (i := 1) (N := some 33) (v := ?_) (a' := ?_) #[true, true, false, false, false, false, true, false, false, false] rfl rfl (take_ofW HT_.out HW_.out (by kernel_rfl)) (fun _ _ _ h => h) (Or.inl ⟨by rfl, ?_⟩) hHeld ?_ ?_
               rotate_left
               · rintro w' ⟨s0, s1⟩
                 go_simp
                 with_reducible rfl
               rotate_left
               · simp only [Act.put, List.setIfInBounds_toArray, List.set_cons_zero, List.set_cons_succ, i64_w, i32_w]
                 rfl
               refine take_ (i := 4) (N := some 36) (v := ?_) (a' := ?_) #[true, true, false, false, true, false, true, false, false, false] rfl rfl (take_ofW HT_.out HW_.out (by kernel_rfl)) (fun _ _ _ h => h) (Or.inl ⟨by rfl, ?_⟩) hHeld ?_ ?_
               rotate_left
               · rintro w' ⟨s0, s1⟩
                 go_simp
                 with_reducible rfl
               rotate_left
               · simp only [Act.put, List.setIfInBounds_toArray, List.set_cons_zero, List.set_cons_succ, i64_w, i32_w]
                 rfl
               refine join_ (σ := Value × Value × Value) 3 #[true, true, true, true, true, true, true, false, false, false] (fun s_ => [(34, s_.1), (35, s_.2.1), (37, s_.2.2)]) (fun s_ w' => (w'.cell? ⟨gb585, 0, none⟩ = some (.int .i64 ((rd_T42 t580 x24_1).f0)) ∧ w'.cell? ⟨gb585, 1, none⟩ = some (.int .i64 ((rd_T42 t580 x24_1).f1))) ∧ (Kd.R k42 42 w' w.heap.size (fun k_ => some k_ ≠ (s_.2.1 : Value).ownBlock ∧ some k_ ≠ (s_.2.2 : Value).ownBlock ∧ some k_ ≠ (.slice (some ad584) t580.length co12 : Value).ownBlock ∧ some k_ ≠ (.slice Ao10 t575.length co10 : Value).ownBlock ∧ some k_ ≠ (.slice Ao30 x6_1.length co30 : Value).ownBlock ∧ k_ ≠ gb585) s_.1 y587) ∧ (Kd.R k42 42 w' w.heap.size (fun k_ => some k_ ≠ (s_.1 : Value).ownBlock ∧ some k_ ≠ (s_.2.2 : Value).ownBlock ∧ some k_ ≠ (.slice (some ad584) t580.length co12 : Value).ownBlock ∧ some k_ ≠ (.slice Ao10 t575.length co10 : Value).ownBlock ∧ some k_ ≠ (.slice Ao30 x6_1.length co30 : Value).ownBlock ∧ k_ ≠ gb585) s_.2.1 y590) ∧ (Kd.R k42 42 w' w.heap.size (fun k_ => some k_ ≠ (s_.1 : Value).ownBlock ∧ some k_ ≠ (s_.2.1 : Value).ownBlock ∧ some k_ ≠ (.slice (some ad584) t580.length co12 : Value).ownBlock ∧ some k_ ≠ (.slice Ao10 t575.length co10 : Value).ownBlock ∧ some k_ ≠ (.slice Ao30 x6_1.length co30 : Value).ownBlock ∧ k_ ≠ gb585) s_.2.2 y593) ∧ (Kd.R k42 42 w' w.heap.size (fun k_ => some k_ ≠ (s_.1 : Value).ownBlock ∧ some k_ ≠ (s_.2.1 : Value).ownBlock ∧ some k_ ≠ (s_.2.2 : Value).ownBlock ∧ some k_ ≠ (.slice Ao10 t575.length co10 : Value).ownBlock ∧ some k_ ≠ (.slice Ao30 x6_1.length co30 : Value).ownBlock ∧ k_ ≠ gb585) (.slice (some ad584) t580.length co12) t580) ∧ (Kd.R k42 42 w' w.heap.size (fun k_ => some k_ ≠ (s_.1 : Value).ownBlock ∧ some k_ ≠ (s_.2.1 : Value).ownBlock ∧ some k_ ≠ (s_.2.2 : Value).ownBlock ∧ some k_ ≠ (.slice (some ad584) t580.length co12 : Value).ownBlock ∧ some k_ ≠ (.slice Ao30 x6_1.length co30 : Value).ownBlock ∧ k_ ≠ gb585) (.slice Ao10 t575.length co10) t575) ∧ (Kd.R k42 42 w' w.heap.size (fun k_ => some k_ ≠ (s_.1 : Value).ownBlock ∧ some k_ ≠ (s_.2.1 : Value).ownBlock ∧ some k_ ≠ (s_.2.2 : Value).ownBlock ∧ some k_ ≠ (.slice (some ad584) t580.length co12 : Value).ownBlock ∧ some k_ ≠ (.slice Ao10 t575.length co10 : Value).ownBlock ∧ k_ ≠ gb585) (.slice Ao30 x6_1.length co30) x6_1) ∧ (w'.heap[gb579]? = some (.cells #[.int .i64 t574, .slice Ao10 t575.length co10] 24 (0, 0))) ∧ (w'.heap[gb585]? = some (.cells #[.int .i64 ((rd_T42 t580 x24_1).f0), .int .i64 ((rd_T42 t580 x24_1).f1)] 42 (0, 0))) ∧ (Below w.heap.size w w')) ?_ ?_
               rotate_left
               · intro hCont
                 refine two_ (i := 2) (j := 5) (Ni := some 34) (Nj := some 37) #[true, true, true, false, true, false, true, false, false, false] #[true, true, false, false, true, true, true, false, false, false] rfl rfl rfl rfl (two_of HT_.out (by kernel_rfl)) (by decide) (by decide) (fun K hK => ?_) (fun K hK => ?_)
                 · skip
                   refine Kd.R_lit_step k42 _ 42 ?hg (N := 34) ?hd (xs := ([(⟨(rd_T42 t580 x24_1).f0, (rd_T42 t580 x24_1).f1⟩ : S42)] : List (S42))) (inner := [.int .i64 ((rd_T42 t580 x24_1).f0), .int .i64 ((rd_T42 t580 x24_1).f1)]) (ok := fun _ => True) (okp := fun _ => True) ?hr ?hp (fun _ hk => hk) trivial (Below.refl _ _) (Nat.le_refl _) (by simp) ?_; (case hd => rfl); (case hg => rfl); (case hr => first | (go_simp; done) | (go_simp; rfl)); (case hp => exact (Reps.c2 (show Kd.M k42 _ _ _ (⟨(rd_T42 t580 x24_1).f0, (rd_T42 t580 x24_1).f1⟩ : S42) [.int .i64 ((rd_T42 t580 x24_1).f0), .int .i64 ((rd_T42 t580 x24_1).f1)] from (k42_mkM _ _ _ (⟨(rd_T42 t580 x24_1).f0, (rd_T42 t580 x24_1).f1⟩ : S42) )) (Reps.none _ _)))
                   intro v588 w32 ho33 hb hg_ hnew_
                   clear hg_ hnew_
                   (first | rw [← Ny587.out] at ho33 | (simp only [Int.reduceToNat] at ho33; rw [← Ny587.out] at ho33))
                   have n0_ := Aside0.mk (Kd.R_elder' (zR HO_5) (Kd.R_base ho33) hb)
                   have n1_ := Aside0.mk (Kd.R_elder' (zR HO_6) (Kd.R_base ho33) hb)
                   have n2_ := Aside0.mk (Kd.R_elder' (zR HO_22) (Kd.R_base ho33) hb)
                   have n3_ := Aside0.mk (Kd.R_elder' (zR HO_580001) (Kd.R_base ho33) hb)
                   have n4_ := Aside0.mk (Kd.R_lower (Kd.R_newB (Kd.R_new' (Kd.R_new' (Kd.R_new' (Kd.R_new' ho33 (Kd.R_lt (zR HO_5))) (Kd.R_lt (zR HO_6))) (Kd.R_lt (zR HO_22))) (Kd.R_lt (zR HO_580001))) (g := gb585) (o := .cells #[.int .i64 ((rd_T42 t580 x24_1).f0), .int .i64 ((rd_T42 t580 x24_1).f1)] 42 (0, 0)) (zK BK585)) (below_size (zB HB)))
                   have n5_ := Aside0.mk (blk_below (g := gb579) (o := .cells #[.int .i64 t574, .slice Ao10 t575.length co10] 24 (0, 0)) (zK BK579) hb)
                   have n6_ := Aside0.mk (blk_below (g := gb585) (o := .cells #[.int .i64 ((rd_T42 t580 x24_1).f0), .int .i64 ((rd_T42 t580 x24_1).f1)] 42 (0, 0)) (zK BK585) hb)
                   have n7_ := Aside0.mk (below_step (zB HB) hb)
                   clear HO_5
                   clear HO_6
                   clear HO_22
                   clear HO_580001
                   clear BK579
                   clear BK585
                   clear HB
                   have HO_5 := n0_
                   have HO_6 := n1_
                   have HO_22 := n2_
                   have HO_580001 := n3_
                   have HO589 := n4_
                   have BK579 := n5_
                   have BK585 := n6_
                   have HB := n7_
                   clear n0_ n1_ n2_ n3_ n4_ n5_ n6_ n7_
                   clear hb ho33
                   obtain ⟨Ao35, co35, eo35⟩ := Kd.R_slice HO589.out
                   (first | subst eo35 | (injection eo35 with f1_ f2_ f3_; have f4_ := f1_.symm; have f5_ := f3_.symm; clear f1_ f2_ f3_; subst f4_; subst f5_))
                   refine hK.out _ _ ⟨(blk_cell BK585.out 0).trans rfl, (blk_cell BK585.out 1).trans rfl⟩ (fun hHeld => ?_)
                   clear hK K
                   refine norm_ (a' := ?_) ?_ ?_
                   rotate_left
                   · show Act.put _ (some 34) _ = _
                     simp only [Act.put, List.setIfInBounds_toArray, List.set_cons_zero, List.set_cons_succ, i64_w, i32_w]
                     rfl
                   refine two_ (i := 3) (j := 5) (Ni := some 35) (Nj := some 37) #[true, true, true, true, true, false, true, false, false, false] #[true, true, true, false, true, true, true, false, false, false] rfl rfl rfl rfl (two_of HT_.out (by kernel_rfl)) (by decide) (by decide) (fun K hK => ?_) (fun K hK => ?_)
                   · skip
                     refine Kd.R_append_rows_step k42 (w0 := w) w.heap.size (by rfl) (.tmp 32) (.tmp 34) 22 42 (.agg #[(.int .i64 0), (.int .i64 0)]) 16 rfl Tryd.underlying22 info42 rfl (by decide) (by omega) (.slice Ao28 x5_1.length co28) x5_1 y587 _ _ _ (fun k_ => some k_ ≠ (.slice Ao30 x6_1.length co30 : Value).ownBlock ∧ some k_ ≠ (.slice (some ad584) t580.length co12 : Value).ownBlock ∧ some k_ ≠ (.slice Ao10 t575.length co10 : Value).ownBlock ∧ some k_ ≠ (.slice Ao35 y587.length co35 : Value).ownBlock ∧ k_ ≠ gb585) (fun _ => False) rfl rfl ?aO ?aR (fun _ _ h => h) (fun _ h => h.elim) ?aF ?aB ?aS ?aL ?_
                     (case aR => repeat (first | exact (Kd.R_reads' HO589.out).2.2 | (with_reducible refine Kd.C_alloc ?_ _) | (with_reducible refine Kd.C_drewN ?_ _) | (with_reducible refine Kd.C_drew ?_)))
                     (case aB => exact (zB HB))
                     (case aF => exact (fun k_ hk => ⟨Kd.fresh' (Kd.R_lt (zR HO_6)) k_ hk, Kd.fresh' (Kd.R_lt (zR HO_22)) k_ hk, Kd.fresh' (Kd.R_lt (zR HO_580001)) k_ hk, Kd.fresh' (Kd.R_lt (zR HO589)) k_ hk, Kd.freshB (g := gb585) (o := .cells #[.int .i64 ((rd_T42 t580 x24_1).f0), .int .i64 ((rd_T42 t580 x24_1).f1)] 42 (0, 0)) (zK BK585) k_ hk⟩))
                     (case aO => exact (by (with_reducible repeat (first | apply Kd.R_alloc | apply Kd.R_drewN | apply Kd.R_drew)); exact Kd.R_mono HO_5.out (fun _ hk => ⟨hk.1.1.1, ⟨hk.1.1.2.1, ⟨hk.1.1.2.2, ⟨hk.2, hk.1.2⟩⟩⟩⟩)))
                     (case aS => exact (below_size (zB HB)))
                     (case aL => have := LMc23.out; omega)
                     intro v591 w34 ho hb hg hat
                     rw [← Ny590.out] at ho
                     have n0_ := Aside0.mk (Kd.R_after (ok := (fun k_ => some k_ ≠ (.slice (some ad584) t580.length co12 : Value).ownBlock ∧ some k_ ≠ (.slice Ao10 t575.length co10 : Value).ownBlock ∧ some k_ ≠ (.slice Ao35 y587.length co35 : Value).ownBlock ∧ k_ ≠ gb585)) (by (with_reducible repeat (first | apply Kd.R_alloc | apply Kd.R_drewN | apply Kd.R_drew)); exact Kd.R_mono HO_6.out (fun _ hk => ⟨⟨hk.1.1.2.1, ⟨hk.1.1.2.2, ⟨hk.2, hk.1.2⟩⟩⟩, hk.1.1.1⟩)) hg hat)
                     have n1_ := Aside0.mk (Kd.R_after (ok := (fun k_ => some k_ ≠ (.slice Ao30 x6_1.length co30 : Value).ownBlock ∧ some k_ ≠ (.slice Ao10 t575.length co10 : Value).ownBlock ∧ some k_ ≠ (.slice Ao35 y587.length co35 : Value).ownBlock ∧ k_ ≠ gb585)) (by (with_reducible repeat (first | apply Kd.R_alloc | apply Kd.R_drewN | apply Kd.R_drew)); exact Kd.R_mono HO_22.out (fun _ hk => ⟨⟨hk.1.1.2.1, ⟨hk.1.1.2.2, ⟨hk.2, hk.1.2⟩⟩⟩, hk.1.1.1⟩)) hg hat)
                     have n2_ := Aside0.mk (Kd.R_after (ok := (fun k_ => some k_ ≠ (.slice Ao30 x6_1.length co30 : Value).ownBlock ∧ some k_ ≠ (.slice (some ad584) t580.length co12 : Value).ownBlock ∧ some k_ ≠ (.slice Ao35 y587.length co35 : Value).ownBlock ∧ k_ ≠ gb585)) (by (with_reducible repeat (first | apply Kd.R_alloc | apply Kd.R_drewN | apply Kd.R_drew)); exact Kd.R_mono HO_580001.out (fun _ hk => ⟨⟨hk.1.1.2.1, ⟨hk.1.1.2.2, ⟨hk.2, hk.1.2⟩⟩⟩, hk.1.1.1⟩)) hg hat)
                     have n3_ := Aside0.mk (blk_grown (g := gb579) (o := .cells #[.int .i64 t574, .slice Ao10 t575.length co10] 24 (0, 0)) (zK BK579) hg (Kd.R_ne HO_5.out BK579.out (by decide)))
                     have n4_ := Aside0.mk (blk_grown (g := gb585) (o := .cells #[.int .i64 ((rd_T42 t580 x24_1).f0), .int .i64 ((rd_T42 t580 x24_1).f1)] 42 (0, 0)) (zK BK585) hg (Kd.R_away HO_5.out (fun _ hk => hk.1.2)))
                     have n5_ := Aside0.mk (Kd.R_after (ok := (fun k_ => some k_ ≠ (.slice Ao30 x6_1.length co30 : Value).ownBlock ∧ some k_ ≠ (.slice (some ad584) t580.length co12 : Value).ownBlock ∧ some k_ ≠ (.slice Ao10 t575.length co10 : Value).ownBlock ∧ k_ ≠ gb585)) (by (with_reducible repeat (first | apply Kd.R_alloc | apply Kd.R_drewN | apply Kd.R_drew)); exact Kd.R_mono HO589.out (fun _ hk => ⟨⟨hk.1.1.1.2, ⟨hk.1.1.2, ⟨hk.1.2, hk.2⟩⟩⟩, hk.1.1.1.1.2⟩)) hg hat)
                     have n6_ := Aside0.mk (hb)
                     have n7_ := Aside0.mk (ho)
                     clear HO_6
                     clear HO_22
                     clear HO_580001
                     clear BK579
                     clear BK585
                     clear HO589
                     clear HB
                     clear HO_5
                     have HO_6 := n0_
                     have HO_22 := n1_
                     have HO_580001 := n2_
                     have BK579 := n3_
                     have BK585 := n4_
                     have HO589 := n5_
                     have HB := n6_
                     have HO592 := n7_
                     clear n0_ n1_ n2_ n3_ n4_ n5_ n6_ n7_
                     clear ho hb hg hat
                     refine hK.out _ _ ⟨(blk_cell BK585.out 0).trans rfl, (blk_cell BK585.out 1).trans rfl⟩ (fun hHeld => ?_)
                     clear hK K
                     refine norm_ (a' := ?_) ?_ ?_
                     rotate_left
                     · show Act.put _ (some 35) _ = _
                       simp only [Act.put, List.setIfInBounds_toArray, List.set_cons_zero, List.set_cons_succ, i64_w, i32_w]
                       rfl
                     refine one_ (i := 5) (N := some 37) #[true, true, true, true, true, true, true, false, false, false] rfl rfl (one_of HT_.out (by kernel_rfl)) (by decide) (fun K hK => ?_)
                     refine Kd.R_lit_step k42 _ 42 ?hg (N := 37) ?hd (xs := ([(⟨(rd_T42 t580 x24_1).f0, (rd_T42 t580 x24_1).f1⟩ : S42)] : List (S42))) (inner := [.int .i64 ((rd_T42 t580 x24_1).f0), .int .i64 ((rd_T42 t580 x24_1).f1)]) (ok := fun _ => True) (okp := fun _ => True) ?hr ?hp (fun _ hk => hk) trivial (Below.refl _ _) (Nat.le_refl _) (by simp) ?_; (case hd => rfl); (case hg => rfl); (case hr => first | (go_simp; done) | (go_simp; rfl)); (case hp => exact (Reps.c2 (show Kd.M k42 _ _ _ (⟨(rd_T42 t580 x24_1).f0, (rd_T42 t580 x24_1).f1⟩ : S42) [.int .i64 ((rd_T42 t580 x24_1).f0), .int .i64 ((rd_T42 t580 x24_1).f1)] from (k42_mkM _ _ _ (⟨(rd_T42 t580 x24_1).f0, (rd_T42 t580 x24_1).f1⟩ : S42) )) (Reps.none _ _)))
                     intro v594 w36 ho37 hb hg_ hnew_
                     clear hg_ hnew_
                     (first | rw [← Ny593.out] at ho37 | (simp only [Int.reduceToNat] at ho37; rw [← Ny593.out] at ho37))
                     have n0_ := Aside0.mk (Kd.R_elder' (zR HO_6) (Kd.R_base ho37) hb)
                     have n1_ := Aside0.mk (Kd.R_elder' (zR HO_22) (Kd.R_base ho37) hb)
                     have n2_ := Aside0.mk (Kd.R_elder' (zR HO_580001) (Kd.R_base ho37) hb)
                     have n3_ := Aside0.mk (Kd.R_elder' (zR HO589) (Kd.R_base ho37) hb)
                     have n4_ := Aside0.mk (Kd.R_elder' (zR HO592) (Kd.R_base ho37) hb)
                     have n5_ := Aside0.mk (Kd.R_lower (Kd.R_newB (Kd.R_new' (Kd.R_new' (Kd.R_new' (Kd.R_new' (Kd.R_new' ho37 (Kd.R_lt (zR HO_6))) (Kd.R_lt (zR HO_22))) (Kd.R_lt (zR HO_580001))) (Kd.R_lt (zR HO589))) (Kd.R_lt (zR HO592))) (g := gb585) (o := .cells #[.int .i64 ((rd_T42 t580 x24_1).f0), .int .i64 ((rd_T42 t580 x24_1).f1)] 42 (0, 0)) (zK BK585)) (below_size (zB HB)))
                     have n6_ := Aside0.mk (blk_below (g := gb579) (o := .cells #[.int .i64 t574, .slice Ao10 t575.length co10] 24 (0, 0)) (zK BK579) hb)
                     have n7_ := Aside0.mk (blk_below (g := gb585) (o := .cells #[.int .i64 ((rd_T42 t580 x24_1).f0), .int .i64 ((rd_T42 t580 x24_1).f1)] 42 (0, 0)) (zK BK585) hb)
                     have n8_ := Aside0.mk (below_step (zB HB) hb)
                     clear HO_6
                     clear HO_22
                     clear HO_580001
                     clear HO589
                     clear HO592
                     clear BK579
                     clear BK585
                     clear HB
                     have HO_6 := n0_
                     have HO_22 := n1_
                     have HO_580001 := n2_
                     have HO589 := n3_
                     have HO592 := n4_
                     have HO595 := n5_
                     have BK579 := n6_
                     have BK585 := n7_
                     have HB := n8_
                     clear n0_ n1_ n2_ n3_ n4_ n5_ n6_ n7_ n8_
                     clear hb ho37
                     refine hK.out _ _ ⟨(blk_cell BK585.out 0).trans rfl, (blk_cell BK585.out 1).trans rfl⟩ (fun hHeld => ?_)
                     clear hK K
                     refine norm_ (a' := ?_) ?_ ?_
                     rotate_left
                     · show Act.put _ (some 37) _ = _
                       simp only [Act.put, List.setIfInBounds_toArray, List.set_cons_zero, List.set_cons_succ, i64_w, i32_w]
                       rfl
                     exact norm_ (by simp only [putAll, Act.put, List.setIfInBounds_toArray, List.set_cons_zero, List.set_cons_succ]) (hCont (.slice Ao35 y587.length co35, v591, v594) _ ⟨hHeld, (by (with_reducible repeat (first | apply Kd.R_alloc | apply Kd.R_drewN | apply Kd.R_drew)); exact Kd.R_mono HO589.out (fun _ hk => ⟨hk.1.2, ⟨hk.2, ⟨hk.1.1.2.1, ⟨hk.1.1.2.2.1, ⟨hk.1.1.1, hk.1.1.2.2.2⟩⟩⟩⟩⟩)), (by (with_reducible repeat (first | apply Kd.R_alloc | apply Kd.R_drewN | apply Kd.R_drew)); exact Kd.R_mono HO592.out (fun _ hk => ⟨hk.1.2.2.2.1, ⟨hk.2, ⟨hk.1.2.1, ⟨hk.1.2.2.1, ⟨hk.1.1, hk.1.2.2.2.2⟩⟩⟩⟩⟩)), (by (with_reducible repeat (first | apply Kd.R_alloc | apply Kd.R_drewN | apply Kd.R_drew)); exact Kd.R_mono HO595.out (fun _ hk => ⟨hk.1.1.2, ⟨hk.1.2, ⟨hk.1.1.1.1.2, ⟨hk.1.1.1.2, ⟨hk.1.1.1.1.1.2, hk.2⟩⟩⟩⟩⟩)), (by (with_reducible repeat (first | apply Kd.R_alloc | apply Kd.R_drewN | apply Kd.R_drew)); exact Kd.R_mono HO_22.out (fun _ hk => ⟨hk.1.1.2.2.1, ⟨hk.1.2, ⟨hk.2, ⟨hk.1.1.2.1, ⟨hk.1.1.1, hk.1.1.2.2.2⟩⟩⟩⟩⟩)), (by (with_reducible repeat (first | apply Kd.R_alloc | apply Kd.R_drewN | apply Kd.R_drew)); exact Kd.R_mono HO_580001.out (fun _ hk => ⟨hk.1.1.2.2.1, ⟨hk.1.2, ⟨hk.2, ⟨hk.1.1.2.1, ⟨hk.1.1.1, hk.1.1.2.2.2⟩⟩⟩⟩⟩)), (by (with_reducible repeat (first | apply Kd.R_alloc | apply Kd.R_drewN | apply Kd.R_drew)); exact Kd.R_mono HO_6.out (fun _ hk => ⟨hk.1.1.2.2.1, ⟨hk.1.2, ⟨hk.2, ⟨hk.1.1.1, ⟨hk.1.1.2.1, hk.1.1.2.2.2⟩⟩⟩⟩⟩)), (zK BK579), (zK BK585), (zB HB)⟩)
                   · skip
                     refine Kd.R_lit_step k42 _ 42 ?hg (N := 37) ?hd (xs := ([(⟨(rd_T42 t580 x24_1).f0, (rd_T42 t580 x24_1).f1⟩ : S42)] : List (S42))) (inner := [.int .i64 ((rd_T42 t580 x24_1).f0), .int .i64 ((rd_T42 t580 x24_1).f1)]) (ok := fun _ => True) (okp := fun _ => True) ?hr ?hp (fun _ hk => hk) trivial (Below.refl _ _) (Nat.le_refl _) (by simp) ?_; (case hd => rfl); (case hg => rfl); (case hr => first | (go_simp; done) | (go_simp; rfl)); (case hp => exact (Reps.c2 (show Kd.M k42 _ _ _ (⟨(rd_T42 t580 x24_1).f0, (rd_T42 t580 x24_1).f1⟩ : S42) [.int .i64 ((rd_T42 t580 x24_1).f0), .int .i64 ((rd_T42 t580 x24_1).f1)] from (k42_mkM _ _ _ (⟨(rd_T42 t580 x24_1).f0, (rd_T42 t580 x24_1).f1⟩ : S42) )) (Reps.none _ _)))
                     intro v594 w34 ho35 hb hg_ hnew_
                     clear hg_ hnew_
                     (first | rw [← Ny593.out] at ho35 | (simp only [Int.reduceToNat] at ho35; rw [← Ny593.out] at ho35))
                     have n0_ := Aside0.mk (Kd.R_elder' (zR HO_5) (Kd.R_base ho35) hb)
                     have n1_ := Aside0.mk (Kd.R_elder' (zR HO_6) (Kd.R_base ho35) hb)
                     have n2_ := Aside0.mk (Kd.R_elder' (zR HO_22) (Kd.R_base ho35) hb)
                     have n3_ := Aside0.mk (Kd.R_elder' (zR HO_580001) (Kd.R_base ho35) hb)
                     have n4_ := Aside0.mk (Kd.R_elder' (zR HO589) (Kd.R_base ho35) hb)
                     have n5_ := Aside0.mk (Kd.R_lower (Kd.R_newB (Kd.R_new' (Kd.R_new' (Kd.R_new' (Kd.R_new' (Kd.R_new' ho35 (Kd.R_lt (zR HO_5))) (Kd.R_lt (zR HO_6))) (Kd.R_lt (zR HO_22))) (Kd.R_lt (zR HO_580001))) (Kd.R_lt (zR HO589))) (g := gb585) (o := .cells #[.int .i64 ((rd_T42 t580 x24_1).f0), .int .i64 ((rd_T42 t580 x24_1).f1)] 42 (0, 0)) (zK BK585)) (below_size (zB HB)))
                     have n6_ := Aside0.mk (blk_below (g := gb579) (o := .cells #[.int .i64 t574, .slice Ao10 t575.length co10] 24 (0, 0)) (zK BK579) hb)
                     have n7_ := Aside0.mk (blk_below (g := gb585) (o := .cells #[.int .i64 ((rd_T42 t580 x24_1).f0), .int .i64 ((rd_T42 t580 x24_1).f1)] 42 (0, 0)) (zK BK585) hb)
                     have n8_ := Aside0.mk (below_step (zB HB) hb)
                     clear HO_5
                     clear HO_6
                     clear HO_22
                     clear HO_580001
                     clear HO589
                     clear BK579
                     clear BK585
                     clear HB
                     have HO_5 := n0_
                     have HO_6 := n1_
                     have HO_22 := n2_
                     have HO_580001 := n3_
                     have HO589 := n4_
                     have HO595 := n5_
                     have BK579 := n6_
                     have BK585 := n7_
                     have HB := n8_
                     clear n0_ n1_ n2_ n3_ n4_ n5_ n6_ n7_ n8_
                     clear hb ho35
                     obtain ⟨Ao37, co37, eo37⟩ := Kd.R_slice HO589.out
                     (first | subst eo37 | (injection eo37 with f1_ f2_ f3_; have f4_ := f1_.symm; have f5_ := f3_.symm; clear f1_ f2_ f3_; subst f4_; subst f5_))
                     refine hK.out _ _ ⟨(blk_cell BK585.out 0).trans rfl, (blk_cell BK585.out 1).trans rfl⟩ (fun hHeld => ?_)
                     clear hK K
                     refine norm_ (a' := ?_) ?_ ?_
                     rotate_left
                     · show Act.put _ (some 37) _ = _
                       simp only [Act.put, List.setIfInBounds_toArray, List.set_cons_zero, List.set_cons_succ, i64_w, i32_w]
                       rfl
                     refine one_ (i := 3) (N := some 35) #[true, true, true, true, true, true, true, false, false, false] rfl rfl (one_of HT_.out (by kernel_rfl)) (by decide) (fun K hK => ?_)
                     refine Kd.R_append_rows_step k42 (w0 := w) w.heap.size (by rfl) (.tmp 32) (.tmp 34) 22 42 (.agg #[(.int .i64 0), (.int .i64 0)]) 16 rfl Tryd.underlying22 info42 rfl (by decide) (by omega) (.slice Ao28 x5_1.length co28) x5_1 y587 _ _ _ (fun k_ => some k_ ≠ (.slice Ao30 x6_1.length co30 : Value).ownBlock ∧ some k_ ≠ (.slice (some ad584) t580.length co12 : Value).ownBlock ∧ some k_ ≠ (.slice Ao10 t575.length co10 : Value).ownBlock ∧ some k_ ≠ (.slice Ao37 y587.length co37 : Value).ownBlock ∧ some k_ ≠ (v594 : Value).ownBlock ∧ k_ ≠ gb585) (fun _ => False) rfl rfl ?aO ?aR (fun _ _ h => h) (fun _ h => h.elim) ?aF ?aB ?aS ?aL ?_
                     (case aR => repeat (first | exact (Kd.R_reads' HO589.out).2.2 | (with_reducible refine Kd.C_alloc ?_ _) | (with_reducible refine Kd.C_drewN ?_ _) | (with_reducible refine Kd.C_drew ?_)))
                     (case aB => exact (zB HB))
                     (case aF => exact (fun k_ hk => ⟨Kd.fresh' (Kd.R_lt (zR HO_6)) k_ hk, Kd.fresh' (Kd.R_lt (zR HO_22)) k_ hk, Kd.fresh' (Kd.R_lt (zR HO_580001)) k_ hk, Kd.fresh' (Kd.R_lt (zR HO589)) k_ hk, Kd.fresh' (Kd.R_lt (zR HO595)) k_ hk, Kd.freshB (g := gb585) (o := .cells #[.int .i64 ((rd_T42 t580 x24_1).f0), .int .i64 ((rd_T42 t580 x24_1).f1)] 42 (0, 0)) (zK BK585) k_ hk⟩))
                     (case aO => exact (by (with_reducible repeat (first | apply Kd.R_alloc | apply Kd.R_drewN | apply Kd.R_drew)); exact Kd.R_mono HO_5.out (fun _ hk => ⟨hk.1.1.1.1, ⟨hk.1.1.1.2.1, ⟨hk.1.1.1.2.2, ⟨hk.1.2, ⟨hk.2, hk.1.1.2⟩⟩⟩⟩⟩)))
                     (case aS => exact (below_size (zB HB)))
                     (case aL => have := LMc23.out; omega)
                     intro v591 w36 ho hb hg hat
                     rw [← Ny590.out] at ho
                     have n0_ := Aside0.mk (Kd.R_after (ok := (fun k_ => some k_ ≠ (.slice (some ad584) t580.length co12 : Value).ownBlock ∧ some k_ ≠ (.slice Ao10 t575.length co10 : Value).ownBlock ∧ some k_ ≠ (.slice Ao37 y587.length co37 : Value).ownBlock ∧ some k_ ≠ (v594 : Value).ownBlock ∧ k_ ≠ gb585)) (by (with_reducible repeat (first | apply Kd.R_alloc | apply Kd.R_drewN | apply Kd.R_drew)); exact Kd.R_mono HO_6.out (fun _ hk => ⟨⟨hk.1.1.1.2.1, ⟨hk.1.1.1.2.2, ⟨hk.1.2, ⟨hk.2, hk.1.1.2⟩⟩⟩⟩, hk.1.1.1.1⟩)) hg hat)
                     have n1_ := Aside0.mk (Kd.R_after (ok := (fun k_ => some k_ ≠ (.slice Ao30 x6_1.length co30 : Value).ownBlock ∧ some k_ ≠ (.slice Ao10 t575.length co10 : Value).ownBlock ∧ some k_ ≠ (.slice Ao37 y587.length co37 : Value).ownBlock ∧ some k_ ≠ (v594 : Value).ownBlock ∧ k_ ≠ gb585)) (by (with_reducible repeat (first | apply Kd.R_alloc | apply Kd.R_drewN | apply Kd.R_drew)); exact Kd.R_mono HO_22.out (fun _ hk => ⟨⟨hk.1.1.1.2.1, ⟨hk.1.1.1.2.2, ⟨hk.1.2, ⟨hk.2, hk.1.1.2⟩⟩⟩⟩, hk.1.1.1.1⟩)) hg hat)
                     have n2_ := Aside0.mk (Kd.R_after (ok := (fun k_ => some k_ ≠ (.slice Ao30 x6_1.length co30 : Value).ownBlock ∧ some k_ ≠ (.slice (some ad584) t580.length co12 : Value).ownBlock ∧ some k_ ≠ (.slice Ao37 y587.length co37 : Value).ownBlock ∧ some k_ ≠ (v594 : Value).ownBlock ∧ k_ ≠ gb585)) (by (with_reducible repeat (first | apply Kd.R_alloc | apply Kd.R_drewN | apply Kd.R_drew)); exact Kd.R_mono HO_580001.out (fun _ hk => ⟨⟨hk.1.1.1.2.1, ⟨hk.1.1.1.2.2, ⟨hk.1.2, ⟨hk.2, hk.1.1.2⟩⟩⟩⟩, hk.1.1.1.1⟩)) hg hat)
                     have n3_ := Aside0.mk (blk_grown (g := gb579) (o := .cells #[.int .i64 t574, .slice Ao10 t575.length co10] 24 (0, 0)) (zK BK579) hg (Kd.R_ne HO_5.out BK579.out (by decide)))
                     have n4_ := Aside0.mk (blk_grown (g := gb585) (o := .cells #[.int .i64 ((rd_T42 t580 x24_1).f0), .int .i64 ((rd_T42 t580 x24_1).f1)] 42 (0, 0)) (zK BK585) hg (Kd.R_away HO_5.out (fun _ hk => hk.1.1.2)))
                     have n5_ := Aside0.mk (Kd.R_after (ok := (fun k_ => some k_ ≠ (.slice Ao30 x6_1.length co30 : Value).ownBlock ∧ some k_ ≠ (.slice (some ad584) t580.length co12 : Value).ownBlock ∧ some k_ ≠ (.slice Ao10 t575.length co10 : Value).ownBlock ∧ some k_ ≠ (v594 : Value).ownBlock ∧ k_ ≠ gb585)) (by (with_reducible repeat (first | apply Kd.R_alloc | apply Kd.R_drewN | apply Kd.R_drew)); exact Kd.R_mono HO589.out (fun _ hk => ⟨⟨hk.1.1.1.1.2, ⟨hk.1.1.1.2, ⟨hk.1.1.2, ⟨hk.2, hk.1.2⟩⟩⟩⟩, hk.1.1.1.1.1.2⟩)) hg hat)
                     have n6_ := Aside0.mk (Kd.R_after (ok := (fun k_ => some k_ ≠ (.slice Ao30 x6_1.length co30 : Value).ownBlock ∧ some k_ ≠ (.slice (some ad584) t580.length co12 : Value).ownBlock ∧ some k_ ≠ (.slice Ao10 t575.length co10 : Value).ownBlock ∧ some k_ ≠ (.slice Ao37 y587.length co37 : Value).ownBlock ∧ k_ ≠ gb585)) (by (with_reducible repeat (first | apply Kd.R_alloc | apply Kd.R_drewN | apply Kd.R_drew)); exact Kd.R_mono HO595.out (fun _ hk => ⟨⟨hk.1.1.1.1.2, ⟨hk.1.1.1.2, ⟨hk.1.1.2, ⟨hk.1.2, hk.2⟩⟩⟩⟩, hk.1.1.1.1.1.2⟩)) hg hat)
                     have n7_ := Aside0.mk (hb)
                     have n8_ := Aside0.mk (ho)
                     clear HO_6
                     clear HO_22
                     clear HO_580001
                     clear BK579
                     clear BK585
                     clear HO589
                     clear HO595
                     clear HB
                     clear HO_5
                     have HO_6 := n0_
                     have HO_22 := n1_
                     have HO_580001 := n2_
                     have BK579 := n3_
                     have BK585 := n4_
                     have HO589 := n5_
                     have HO595 := n6_
                     have HB := n7_
                     have HO592 := n8_
                     clear n0_ n1_ n2_ n3_ n4_ n5_ n6_ n7_ n8_
                     clear ho hb hg hat
                     refine hK.out _ _ ⟨(blk_cell BK585.out 0).trans rfl, (blk_cell BK585.out 1).trans rfl⟩ (fun hHeld => ?_)
                     clear hK K
                     refine norm_ (a' := ?_) ?_ ?_
                     rotate_left
                     · show Act.put _ (some 35) _ = _
                       simp only [Act.put, List.setIfInBounds_toArray, List.set_cons_zero, List.set_cons_succ, i64_w, i32_w]
                       rfl
                     exact norm_ (by simp only [putAll, Act.put, List.setIfInBounds_toArray, List.set_cons_zero, List.set_cons_succ]) (hCont (.slice Ao37 y587.length co37, v591, v594) _ ⟨hHeld, (by (with_reducible repeat (first | apply Kd.R_alloc | apply Kd.R_drewN | apply Kd.R_drew)); exact Kd.R_mono HO589.out (fun _ hk => ⟨hk.2, ⟨hk.1.2.2.2.1, ⟨hk.1.2.1, ⟨hk.1.2.2.1, ⟨hk.1.1, hk.1.2.2.2.2⟩⟩⟩⟩⟩)), (by (with_reducible repeat (first | apply Kd.R_alloc | apply Kd.R_drewN | apply Kd.R_drew)); exact Kd.R_mono HO592.out (fun _ hk => ⟨hk.2.2.2.1, ⟨hk.2.2.2.2.1, ⟨hk.2.1, ⟨hk.2.2.1, ⟨hk.1, hk.2.2.2.2.2⟩⟩⟩⟩⟩)), (by (with_reducible repeat (first | apply Kd.R_alloc | apply Kd.R_drewN | apply Kd.R_drew)); exact Kd.R_mono HO595.out (fun _ hk => ⟨hk.1.2.2.2.1, ⟨hk.2, ⟨hk.1.2.1, ⟨hk.1.2.2.1, ⟨hk.1.1, hk.1.2.2.2.2⟩⟩⟩⟩⟩)), (by (with_reducible repeat (first | apply Kd.R_alloc | apply Kd.R_drewN | apply Kd.R_drew)); exact Kd.R_mono HO_22.out (fun _ hk => ⟨hk.1.2.2.1, ⟨hk.2, ⟨hk.1.2.2.2.1, ⟨hk.1.2.1, ⟨hk.1.1, hk.1.2.2.2.2⟩⟩⟩⟩⟩)), (by (with_reducible repeat (first | apply Kd.R_alloc | apply Kd.R_drewN | apply Kd.R_drew)); exact Kd.R_mono HO_580001.out (fun _ hk => ⟨hk.1.2.2.1, ⟨hk.2, ⟨hk.1.2.2.2.1, ⟨hk.1.2.1, ⟨hk.1.1, hk.1.2.2.2.2⟩⟩⟩⟩⟩)), (by (with_reducible repeat (first | apply Kd.R_alloc | apply Kd.R_drewN | apply Kd.R_drew)); exact Kd.R_mono HO_6.out (fun _ hk => ⟨hk.1.2.2.1, ⟨hk.2, ⟨hk.1.2.2.2.1, ⟨hk.1.1, ⟨hk.1.2.1, hk.1.2.2.2.2⟩⟩⟩⟩⟩)), (zK BK579), (zK BK585), (zB HB)⟩)
                 · skip
                   refine Kd.R_lit_step k42 _ 42 ?hg (N := 37) ?hd (xs := ([(⟨(rd_T42 t580 x24_1).f0, (rd_T42 t580 x24_1).f1⟩ : S42)] : List (S42))) (inner := [.int .i64 ((rd_T42 t580 x24_1).f0), .int .i64 ((rd_T42 t580 x24_1).f1)]) (ok := fun _ => True) (okp := fun _ => True) ?hr ?hp (fun _ hk => hk) trivial (Below.refl _ _) (Nat.le_refl _) (by simp) ?_; (case hd => rfl); (case hg => rfl); (case hr => first | (go_simp; done) | (go_simp; rfl)); (case hp => exact (Reps.c2 (show Kd.M k42 _ _ _ (⟨(rd_T42 t580 x24_1).f0, (rd_T42 t580 x24_1).f1⟩ : S42) [.int .i64 ((rd_T42 t580 x24_1).f0), .int .i64 ((rd_T42 t580 x24_1).f1)] from (k42_mkM _ _ _ (⟨(rd_T42 t580 x24_1).f0, (rd_T42 t580 x24_1).f1⟩ : S42) )) (Reps.none _ _)))
                   intro v594 w32 ho33 hb hg_ hnew_
                   clear hg_ hnew_
                   (first | rw [← Ny593.out] at ho33 | (simp only [Int.reduceToNat] at ho33; rw [← Ny593.out] at ho33))
                   have n0_ := Aside0.mk (Kd.R_elder' (zR HO_5) (Kd.R_base ho33) hb)
                   have n1_ := Aside0.mk (Kd.R_elder' (zR HO_6) (Kd.R_base ho33) hb)
                   have n2_ := Aside0.mk (Kd.R_elder' (zR HO_22) (Kd.R_base ho33) hb)
                   have n3_ := Aside0.mk (Kd.R_elder' (zR HO_580001) (Kd.R_base ho33) hb)
                   have n4_ := Aside0.mk (Kd.R_lower (Kd.R_newB (Kd.R_new' (Kd.R_new' (Kd.R_new' (Kd.R_new' ho33 (Kd.R_lt (zR HO_5))) (Kd.R_lt (zR HO_6))) (Kd.R_lt (zR HO_22))) (Kd.R_lt (zR HO_580001))) (g := gb585) (o := .cells #[.int .i64 ((rd_T42 t580 x24_1).f0), .int .i64 ((rd_T42 t580 x24_1).f1)] 42 (0, 0)) (zK BK585)) (below_size (zB HB)))
                   have n5_ := Aside0.mk (blk_below (g := gb579) (o := .cells #[.int .i64 t574, .slice Ao10 t575.length co10] 24 (0, 0)) (zK BK579) hb)
                   have n6_ := Aside0.mk (blk_below (g := gb585) (o := .cells #[.int .i64 ((rd_T42 t580 x24_1).f0), .int .i64 ((rd_T42 t580 x24_1).f1)] 42 (0, 0)) (zK BK585) hb)
                   have n7_ := Aside0.mk (below_step (zB HB) hb)
                   clear HO_5
                   clear HO_6
                   clear HO_22
                   clear HO_580001
                   clear BK579
                   clear BK585
                   clear HB
                   have HO_5 := n0_
                   have HO_6 := n1_
                   have HO_22 := n2_
                   have HO_580001 := n3_
                   have HO595 := n4_
                   have BK579 := n5_
                   have BK585 := n6_
                   have HB := n7_
                   clear n0_ n1_ n2_ n3_ n4_ n5_ n6_ n7_
                   clear hb ho33
                   refine hK.out _ _ ⟨(blk_cell BK585.out 0).trans rfl, (blk_cell BK585.out 1).trans rfl⟩ (fun hHeld => ?_)
                   clear hK K
                   refine norm_ (a' := ?_) ?_ ?_
                   rotate_left
                   · show Act.put _ (some 37) _ = _
                     simp only [Act.put, List.setIfInBounds_toArray, List.set_cons_zero, List.set_cons_succ, i64_w, i32_w]
                     rfl
                   refine one_ (i := 2) (N := some 34) #[true, true, true, false, true, true, true, false, false, false] rfl rfl (one_of HT_.out (by kernel_rfl)) (by decide) (fun K hK => ?_)
                   refine Kd.R_lit_step k42 _ 42 ?hg (N := 34) ?hd (xs := ([(⟨(rd_T42 t580 x24_1).f0, (rd_T42 t580 x24_1).f1⟩ : S42)] : List (S42))) (inner := [.int .i64 ((rd_T42 t580 x24_1).f0), .int .i64 ((rd_T42 t580 x24_1).f1)]) (ok := fun _ => True) (okp := fun _ => True) ?hr ?hp (fun _ hk => hk) trivial (Below.refl _ _) (Nat.le_refl _) (by simp) ?_; (case hd => rfl); (case hg => rfl); (case hr => first | (go_simp; done) | (go_simp; rfl)); (case hp => exact (Reps.c2 (show Kd.M k42 _ _ _ (⟨(rd_T42 t580 x24_1).f0, (rd_T42 t580 x24_1).f1⟩ : S42) [.int .i64 ((rd_T42 t580 x24_1).f0), .int .i64 ((rd_T42 t580 x24_1).f1)] from (k42_mkM _ _ _ (⟨(rd_T42 t580 x24_1).f0, (rd_T42 t580 x24_1).f1⟩ : S42) )) (Reps.none _ _)))
                   intro v588 w34 ho35 hb hg_ hnew_
                   clear hg_ hnew_
                   (first | rw [← Ny587.out] at ho35 | (simp only [Int.reduceToNat] at ho35; rw [← Ny587.out] at ho35))
                   have n0_ := Aside0.mk (Kd.R_elder' (zR HO_5) (Kd.R_base ho35) hb)
                   have n1_ := Aside0.mk (Kd.R_elder' (zR HO_6) (Kd.R_base ho35) hb)
                   have n2_ := Aside0.mk (Kd.R_elder' (zR HO_22) (Kd.R_base ho35) hb)
                   have n3_ := Aside0.mk (Kd.R_elder' (zR HO_580001) (Kd.R_base ho35) hb)
                   have n4_ := Aside0.mk (Kd.R_elder' (zR HO595) (Kd.R_base ho35) hb)
                   have n5_ := Aside0.mk (Kd.R_lower (Kd.R_newB (Kd.R_new' (Kd.R_new' (Kd.R_new' (Kd.R_new' (Kd.R_new' ho35 (Kd.R_lt (zR HO_5))) (Kd.R_lt (zR HO_6))) (Kd.R_lt (zR HO_22))) (Kd.R_lt (zR HO_580001))) (Kd.R_lt (zR HO595))) (g := gb585) (o := .cells #[.int .i64 ((rd_T42 t580 x24_1).f0), .int .i64 ((rd_T42 t580 x24_1).f1)] 42 (0, 0)) (zK BK585)) (below_size (zB HB)))
                   have n6_ := Aside0.mk (blk_below (g := gb579) (o := .cells #[.int .i64 t574, .slice Ao10 t575.length co10] 24 (0, 0)) (zK BK579) hb)
                   have n7_ := Aside0.mk (blk_below (g := gb585) (o := .cells #[.int .i64 ((rd_T42 t580 x24_1).f0), .int .i64 ((rd_T42 t580 x24_1).f1)] 42 (0, 0)) (zK BK585) hb)
                   have n8_ := Aside0.mk (below_step (zB HB) hb)
                   clear HO_5
                   clear HO_6
                   clear HO_22
                   clear HO_580001
                   clear HO595
                   clear BK579
                   clear BK585
                   clear HB
                   have HO_5 := n0_
                   have HO_6 := n1_
                   have HO_22 := n2_
                   have HO_580001 := n3_
                   have HO595 := n4_
                   have HO589 := n5_
                   have BK579 := n6_
                   have BK585 := n7_
                   have HB := n8_
                   clear n0_ n1_ n2_ n3_ n4_ n5_ n6_ n7_ n8_
                   clear hb ho35
                   obtain ⟨Ao37, co37, eo37⟩ := Kd.R_slice HO589.out
                   (first | subst eo37 | (injection eo37 with f1_ f2_ f3_; have f4_ := f1_.symm; have f5_ := f3_.symm; clear f1_ f2_ f3_; subst f4_; subst f5_))
                   refine hK.out _ _ ⟨(blk_cell BK585.out 0).trans rfl, (blk_cell BK585.out 1).trans rfl⟩ (fun hHeld => ?_)
                   clear hK K
                   refine norm_ (a' := ?_) ?_ ?_
                   rotate_left
                   · show Act.put _ (some 34) _ = _
                     simp only [Act.put, List.setIfInBounds_toArray, List.set_cons_zero, List.set_cons_succ, i64_w, i32_w]
                     rfl
                   refine one_ (i := 3) (N := some 35) #[true, true, true, true, true, true, true, false, false, false] rfl rfl (one_of HT_.out (by kernel_rfl)) (by decide) (fun K hK => ?_)
                   refine Kd.R_append_rows_step k42 (w0 := w) w.heap.size (by rfl) (.tmp 32) (.tmp 34) 22 42 (.agg #[(.int .i64 0), (.int .i64 0)]) 16 rfl Tryd.underlying22 info42 rfl (by decide) (by omega) (.slice Ao28 x5_1.length co28) x5_1 y587 _ _ _ (fun k_ => some k_ ≠ (.slice Ao30 x6_1.length co30 : Value).ownBlock ∧ some k_ ≠ (.slice (some ad584) t580.length co12 : Value).ownBlock ∧ some k_ ≠ (.slice Ao10 t575.length co10 : Value).ownBlock ∧ some k_ ≠ (v594 : Value).ownBlock ∧ some k_ ≠ (.slice Ao37 y587.length co37 : Value).ownBlock ∧ k_ ≠ gb585) (fun _ => False) rfl rfl ?aO ?aR (fun _ _ h => h) (fun _ h => h.elim) ?aF ?aB ?aS ?aL ?_
                   (case aR => repeat (first | exact (Kd.R_reads' HO589.out).2.2 | (with_reducible refine Kd.C_alloc ?_ _) | (with_reducible refine Kd.C_drewN ?_ _) | (with_reducible refine Kd.C_drew ?_)))
                   (case aB => exact (zB HB))
                   (case aF => exact (fun k_ hk => ⟨Kd.fresh' (Kd.R_lt (zR HO_6)) k_ hk, Kd.fresh' (Kd.R_lt (zR HO_22)) k_ hk, Kd.fresh' (Kd.R_lt (zR HO_580001)) k_ hk, Kd.fresh' (Kd.R_lt (zR HO595)) k_ hk, Kd.fresh' (Kd.R_lt (zR HO589)) k_ hk, Kd.freshB (g := gb585) (o := .cells #[.int .i64 ((rd_T42 t580 x24_1).f0), .int .i64 ((rd_T42 t580 x24_1).f1)] 42 (0, 0)) (zK BK585) k_ hk⟩))
                   (case aO => exact (by (with_reducible repeat (first | apply Kd.R_alloc | apply Kd.R_drewN | apply Kd.R_drew)); exact Kd.R_mono HO_5.out (fun _ hk => ⟨hk.1.1.1.1, ⟨hk.1.1.1.2.1, ⟨hk.1.1.1.2.2, ⟨hk.1.2, ⟨hk.2, hk.1.1.2⟩⟩⟩⟩⟩)))
                   (case aS => exact (below_size (zB HB)))
                   (case aL => have := LMc23.out; omega)
                   intro v591 w36 ho hb hg hat
                   rw [← Ny590.out] at ho
                   have n0_ := Aside0.mk (Kd.R_after (ok := (fun k_ => some k_ ≠ (.slice (some ad584) t580.length co12 : Value).ownBlock ∧ some k_ ≠ (.slice Ao10 t575.length co10 : Value).ownBlock ∧ some k_ ≠ (v594 : Value).ownBlock ∧ some k_ ≠ (.slice Ao37 y587.length co37 : Value).ownBlock ∧ k_ ≠ gb585)) (by (with_reducible repeat (first | apply Kd.R_alloc | apply Kd.R_drewN | apply Kd.R_drew)); exact Kd.R_mono HO_6.out (fun _ hk => ⟨⟨hk.1.1.1.2.1, ⟨hk.1.1.1.2.2, ⟨hk.1.2, ⟨hk.2, hk.1.1.2⟩⟩⟩⟩, hk.1.1.1.1⟩)) hg hat)
                   have n1_ := Aside0.mk (Kd.R_after (ok := (fun k_ => some k_ ≠ (.slice Ao30 x6_1.length co30 : Value).ownBlock ∧ some k_ ≠ (.slice Ao10 t575.length co10 : Value).ownBlock ∧ some k_ ≠ (v594 : Value).ownBlock ∧ some k_ ≠ (.slice Ao37 y587.length co37 : Value).ownBlock ∧ k_ ≠ gb585)) (by (with_reducible repeat (first | apply Kd.R_alloc | apply Kd.R_drewN | apply Kd.R_drew)); exact Kd.R_mono HO_22.out (fun _ hk => ⟨⟨hk.1.1.1.2.1, ⟨hk.1.1.1.2.2, ⟨hk.1.2, ⟨hk.2, hk.1.1.2⟩⟩⟩⟩, hk.1.1.1.1⟩)) hg hat)
                   have n2_ := Aside0.mk (Kd.R_after (ok := (fun k_ => some k_ ≠ (.slice Ao30 x6_1.length co30 : Value).ownBlock ∧ some k_ ≠ (.slice (some ad584) t580.length co12 : Value).ownBlock ∧ some k_ ≠ (v594 : Value).ownBlock ∧ some k_ ≠ (.slice Ao37 y587.length co37 : Value).ownBlock ∧ k_ ≠ gb585)) (by (with_reducible repeat (first | apply Kd.R_alloc | apply Kd.R_drewN | apply Kd.R_drew)); exact Kd.R_mono HO_580001.out (fun _ hk => ⟨⟨hk.1.1.1.2.1, ⟨hk.1.1.1.2.2, ⟨hk.1.2, ⟨hk.2, hk.1.1.2⟩⟩⟩⟩, hk.1.1.1.1⟩)) hg hat)
                   have n3_ := Aside0.mk (blk_grown (g := gb579) (o := .cells #[.int .i64 t574, .slice Ao10 t575.length co10] 24 (0, 0)) (zK BK579) hg (Kd.R_ne HO_5.out BK579.out (by decide)))
                   have n4_ := Aside0.mk (blk_grown (g := gb585) (o := .cells #[.int .i64 ((rd_T42 t580 x24_1).f0), .int .i64 ((rd_T42 t580 x24_1).f1)] 42 (0, 0)) (zK BK585) hg (Kd.R_away HO_5.out (fun _ hk => hk.1.1.2)))
                   have n5_ := Aside0.mk (Kd.R_after (ok := (fun k_ => some k_ ≠ (.slice Ao30 x6_1.length co30 : Value).ownBlock ∧ some k_ ≠ (.slice (some ad584) t580.length co12 : Value).ownBlock ∧ some k_ ≠ (.slice Ao10 t575.length co10 : Value).ownBlock ∧ some k_ ≠ (.slice Ao37 y587.length co37 : Value).ownBlock ∧ k_ ≠ gb585)) (by (with_reducible repeat (first | apply Kd.R_alloc | apply Kd.R_drewN | apply Kd.R_drew)); exact Kd.R_mono HO595.out (fun _ hk => ⟨⟨hk.1.1.1.1.2, ⟨hk.1.1.1.2, ⟨hk.1.1.2, ⟨hk.2, hk.1.2⟩⟩⟩⟩, hk.1.1.1.1.1.2⟩)) hg hat)
                   have n6_ := Aside0.mk (Kd.R_after (ok := (fun k_ => some k_ ≠ (.slice Ao30 x6_1.length co30 : Value).ownBlock ∧ some k_ ≠ (.slice (some ad584) t580.length co12 : Value).ownBlock ∧ some k_ ≠ (.slice Ao10 t575.length co10 : Value).ownBlock ∧ some k_ ≠ (v594 : Value).ownBlock ∧ k_ ≠ gb585)) (by (with_reducible repeat (first | apply Kd.R_alloc | apply Kd.R_drewN | apply Kd.R_drew)); exact Kd.R_mono HO589.out (fun _ hk => ⟨⟨hk.1.1.1.1.2, ⟨hk.1.1.1.2, ⟨hk.1.1.2, ⟨hk.1.2, hk.2⟩⟩⟩⟩, hk.1.1.1.1.1.2⟩)) hg hat)
                   have n7_ := Aside0.mk (hb)
                   have n8_ := Aside0.mk (ho)
                   clear HO_6
                   clear HO_22
                   clear HO_580001
                   clear BK579
                   clear BK585
                   clear HO595
                   clear HO589
                   clear HB
                   clear HO_5
                   have HO_6 := n0_
                   have HO_22 := n1_
                   have HO_580001 := n2_
                   have BK579 := n3_
                   have BK585 := n4_
                   have HO595 := n5_
                   have HO589 := n6_
                   have HB := n7_
                   have HO592 := n8_
                   clear n0_ n1_ n2_ n3_ n4_ n5_ n6_ n7_ n8_
                   clear ho hb hg hat
                   refine hK.out _ _ ⟨(blk_cell BK585.out 0).trans rfl, (blk_cell BK585.out 1).trans rfl⟩ (fun hHeld => ?_)
                   clear hK K
                   refine norm_ (a' := ?_) ?_ ?_
                   rotate_left
                   · show Act.put _ (some 35) _ = _
                     simp only [Act.put, List.setIfInBounds_toArray, List.set_cons_zero, List.set_cons_succ, i64_w, i32_w]
                     rfl
                   exact norm_ (by simp only [putAll, Act.put, List.setIfInBounds_toArray, List.set_cons_zero, List.set_cons_succ]) (hCont (.slice Ao37 y587.length co37, v591, v594) _ ⟨hHeld, (by (with_reducible repeat (first | apply Kd.R_alloc | apply Kd.R_drewN | apply Kd.R_drew)); exact Kd.R_mono HO589.out (fun _ hk => ⟨hk.2, ⟨hk.1.2.2.2.1, ⟨hk.1.2.1, ⟨hk.1.2.2.1, ⟨hk.1.1, hk.1.2.2.2.2⟩⟩⟩⟩⟩)), (by (with_reducible repeat (first | apply Kd.R_alloc | apply Kd.R_drewN | apply Kd.R_drew)); exact Kd.R_mono HO592.out (fun _ hk => ⟨hk.2.2.2.2.1, ⟨hk.2.2.2.1, ⟨hk.2.1, ⟨hk.2.2.1, ⟨hk.1, hk.2.2.2.2.2⟩⟩⟩⟩⟩)), (by (with_reducible repeat (first | apply Kd.R_alloc | apply Kd.R_drewN | apply Kd.R_drew)); exact Kd.R_mono HO595.out (fun _ hk => ⟨hk.1.2.2.2.1, ⟨hk.2, ⟨hk.1.2.1, ⟨hk.1.2.2.1, ⟨hk.1.1, hk.1.2.2.2.2⟩⟩⟩⟩⟩)), (by (with_reducible repeat (first | apply Kd.R_alloc | apply Kd.R_drewN | apply Kd.R_drew)); exact Kd.R_mono HO_22.out (fun _ hk => ⟨hk.1.2.2.2.1, ⟨hk.2, ⟨hk.1.2.2.1, ⟨hk.1.2.1, ⟨hk.1.1, hk.1.2.2.2.2⟩⟩⟩⟩⟩)), (by (with_reducible repeat (first | apply Kd.R_alloc | apply Kd.R_drewN | apply Kd.R_drew)); exact Kd.R_mono HO_580001.out (fun _ hk => ⟨hk.1.2.2.2.1, ⟨hk.2, ⟨hk.1.2.2.1, ⟨hk.1.2.1, ⟨hk.1.1, hk.1.2.2.2.2⟩⟩⟩⟩⟩)), (by (with_reducible repeat (first | apply Kd.R_alloc | apply Kd.R_drewN | apply Kd.R_drew)); exact Kd.R_mono HO_6.out (fun _ hk => ⟨hk.1.2.2.2.1, ⟨hk.2, ⟨hk.1.2.2.1, ⟨hk.1.1, ⟨hk.1.2.1, hk.1.2.2.2.2⟩⟩⟩⟩⟩)), (zK BK579), (zK BK585), (zB HB)⟩)
               rintro ⟨v588, v591, v594⟩ w38 ⟨hS_, h0_, h1_, h2_, h3_, h4_, h5_, h6_, h7_, h8_⟩
               have n0_ : Aside0 (Kd.R k42 42 w38 w.heap.size (fun k_ => some k_ ≠ (v591 : Value).ownBlock ∧ some k_ ≠ (v594 : Value).ownBlock ∧ some k_ ≠ (.slice (some ad584) t580.length co12 : Value).ownBlock ∧ some k_ ≠ (.slice Ao10 t575.length co10 : Value).ownBlock ∧ some k_ ≠ (.slice Ao30 x6_1.length co30 : Value).ownBlock ∧ k_ ≠ gb585) v588 y587) := ⟨h0_⟩
               have n1_ : Aside0 (Kd.R k42 42 w38 w.heap.size (fun k_ => some k_ ≠ (v588 : Value).ownBlock ∧ some k_ ≠ (v594 : Value).ownBlock ∧ some k_ ≠ (.slice (some ad584) t580.length co12 : Value).ownBlock ∧ some k_ ≠ (.slice Ao10 t575.length co10 : Value).ownBlock ∧ some k_ ≠ (.slice Ao30 x6_1.length co30 : Value).ownBlock ∧ k_ ≠ gb585) v591 y590) := ⟨h1_⟩
               have n2_ : Aside0 (Kd.R k42 42 w38 w.heap.size (fun k_ => some k_ ≠ (v588 : Value).ownBlock ∧ some k_ ≠ (v591 : Value).ownBlock ∧ some k_ ≠ (.slice (some ad584) t580.length co12 : Value).ownBlock ∧ some k_ ≠ (.slice Ao10 t575.length co10 : Value).ownBlock ∧ some k_ ≠ (.slice Ao30 x6_1.length co30 : Value).ownBlock ∧ k_ ≠ gb585) v594 y593) := ⟨h2_⟩
               have n3_ : Aside0 (Kd.R k42 42 w38 w.heap.size (fun k_ => some k_ ≠ (v588 : Value).ownBlock ∧ some k_ ≠ (v591 : Value).ownBlock ∧ some k_ ≠ (v594 : Value).ownBlock ∧ some k_ ≠ (.slice Ao10 t575.length co10 : Value).ownBlock ∧ some k_ ≠ (.slice Ao30 x6_1.length co30 : Value).ownBlock ∧ k_ ≠ gb585) (.slice (some ad584) t580.length co12) t580) := ⟨h3_⟩
               have n4_ : Aside0 (Kd.R k42 42 w38 w.heap.size (fun k_ => some k_ ≠ (v588 : Value).ownBlock ∧ some k_ ≠ (v591 : Value).ownBlock ∧ some k_ ≠ (v594 : Value).ownBlock ∧ some k_ ≠ (.slice (some ad584) t580.length co12 : Value).ownBlock ∧ some k_ ≠ (.slice Ao30 x6_1.length co30 : Value).ownBlock ∧ k_ ≠ gb585) (.slice Ao10 t575.length co10) t575) := ⟨h4_⟩
               have n5_ : Aside0 (Kd.R k42 42 w38 w.heap.size (fun k_ => some k_ ≠ (v588 : Value).ownBlock ∧ some k_ ≠ (v591 : Value).ownBlock ∧ some k_ ≠ (v594 : Value).ownBlock ∧ some k_ ≠ (.slice (some ad584) t580.length co12 : Value).ownBlock ∧ some k_ ≠ (.slice Ao10 t575.length co10 : Value).ownBlock ∧ k_ ≠ gb585) (.slice Ao30 x6_1.length co30) x6_1) := ⟨h5_⟩
               have n6_ : Aside0 (w38.heap[gb579]? = some (.cells #[.int .i64 t574, .slice Ao10 t575.length co10] 24 (0, 0))) := ⟨h6_⟩
               have n7_ : Aside0 (w38.heap[gb585]? = some (.cells #[.int .i64 ((rd_T42 t580 x24_1).f0), .int .i64 ((rd_T42 t580 x24_1).f1)] 42 (0, 0))) := ⟨h7_⟩
               have n8_ : Aside0 (Below w.heap.size w w38) := ⟨h8_⟩
               clear HO_5
               clear HO_6
               clear HO_22
               clear HO_580001
               clear BK579
               clear BK585
               clear HB
               clear h0_ h1_ h2_ h3_ h4_ h5_ h6_ h7_ h8_
               have HO589 := n0_
               have HO592 := n1_
               have HO595 := n2_
               have HO_22 := n3_
               have HO_580001 := n4_
               have HO_6 := n5_
               have BK579 := n6_
               have BK585 := n7_
               have HB := n8_
               clear n0_ n1_ n2_ n3_ n4_ n5_ n6_ n7_ n8_
               have hHeld : w38.cell? ⟨gb585, 0, none⟩ = some (.int .i64 ((rd_T42 t580 x24_1).f0)) ∧ w38.cell? ⟨gb585, 1, none⟩ = some (.int .i64 ((rd_T42 t580 x24_1).f1)) := hS_
               refine norm_ (a' := ?_) ?_ ?_
               rotate_left
               · simp only [putAll, Act.put, List.setIfInBounds_toArray, List.set_cons_zero, List.set_cons_succ]
                 rfl
               refine one_ (i := 7) (N := some 39) #[true, true, true, true, true, true, true, true, false, false] rfl rfl (one_of HT_.out (by kernel_rfl)) (by decide) (fun K hK => ?_)
               refine Kd.R_append_rows_step k42 (w0 := w) w.heap.size (by rfl) (.tmp 37) (.tmp 38) 22 42 (.agg #[(.int .i64 0), (.int .i64 0)]) 16 rfl Tryd.underlying22 info42 rfl (by decide) (by omega) v594 y593 x6_1 _ _ _ (fun k_ => some k_ ≠ (.slice Ao30 x6_1.length co30 : Value).ownBlock ∧ some k_ ≠ (.slice (some ad584) t580.length co12 : Value).ownBlock ∧ some k_ ≠ (.slice Ao10 t575.length co10 : Value).ownBlock ∧ some k_ ≠ (v588 : Value).ownBlock ∧ some k_ ≠ (v591 : Value).ownBlock ∧ k_ ≠ gb585) (fun _ => False) rfl rfl ?aO ?aR (fun _ _ h => h) (fun _ h => h.elim) ?aF ?aB ?aS ?aL ?_
               (case aR => repeat (first | exact (Kd.R_reads' HO_6.out).2.2 | (with_reducible refine Kd.C_alloc ?_ _) | (with_reducible refine Kd.C_drewN ?_ _) | (with_reducible refine Kd.C_drew ?_)))
               (case aB => exact (zB HB))
               (case aF => exact (fun k_ hk => ⟨Kd.fresh' (Kd.R_lt (zR HO_6)) k_ hk, Kd.fresh' (Kd.R_lt (zR HO_22)) k_ hk, Kd.fresh' (Kd.R_lt (zR HO_580001)) k_ hk, Kd.fresh' (Kd.R_lt (zR HO589)) k_ hk, Kd.fresh' (Kd.R_lt (zR HO592)) k_ hk, Kd.freshB (g := gb585) (o := .cells #[.int .i64 ((rd_T42 t580 x24_1).f0), .int .i64 ((rd_T42 t580 x24_1).f1)] 42 (0, 0)) (zK BK585) k_ hk⟩))
               (case aO => exact (by (with_reducible repeat (first | apply Kd.R_alloc | apply Kd.R_drewN | apply Kd.R_drew)); exact Kd.R_mono HO595.out (fun _ hk => ⟨hk.2.2.2.2.1, ⟨hk.2.2.1, ⟨hk.2.2.2.1, ⟨hk.1, ⟨hk.2.1, hk.2.2.2.2.2⟩⟩⟩⟩⟩)))
               (case aS => exact (below_size (zB HB)))
               (case aL => have := LMc24.out; omega)
               intro v597 w39 ho hb hg hat
               rw [← Ny596.out] at ho
               have n0_ := Aside0.mk (Kd.R_after (ok := (fun k_ => some k_ ≠ (.slice (some ad584) t580.length co12 : Value).ownBlock ∧ some k_ ≠ (.slice Ao10 t575.length co10 : Value).ownBlock ∧ some k_ ≠ (v588 : Value).ownBlock ∧ some k_ ≠ (v591 : Value).ownBlock ∧ k_ ≠ gb585)) (by (with_reducible repeat (first | apply Kd.R_alloc | apply Kd.R_drewN | apply Kd.R_drew)); exact Kd.R_mono HO_6.out (fun _ hk => ⟨⟨hk.2.2.2.1, ⟨hk.2.2.2.2.1, ⟨hk.1, ⟨hk.2.1, hk.2.2.2.2.2⟩⟩⟩⟩, hk.2.2.1⟩)) hg hat)
               have n1_ := Aside0.mk (Kd.R_after (ok := (fun k_ => some k_ ≠ (.slice Ao30 x6_1.length co30 : Value).ownBlock ∧ some k_ ≠ (.slice Ao10 t575.length co10 : Value).ownBlock ∧ some k_ ≠ (v588 : Value).ownBlock ∧ some k_ ≠ (v591 : Value).ownBlock ∧ k_ ≠ gb585)) (by (with_reducible repeat (first | apply Kd.R_alloc | apply Kd.R_drewN | apply Kd.R_drew)); exact Kd.R_mono HO_22.out (fun _ hk => ⟨⟨hk.2.2.2.2.1, ⟨hk.2.2.2.1, ⟨hk.1, ⟨hk.2.1, hk.2.2.2.2.2⟩⟩⟩⟩, hk.2.2.1⟩)) hg hat)
               have n2_ := Aside0.mk (Kd.R_after (ok := (fun k_ => some k_ ≠ (.slice Ao30 x6_1.length co30 : Value).ownBlock ∧ some k_ ≠ (.slice (some ad584) t580.length co12 : Value).ownBlock ∧ some k_ ≠ (v588 : Value).ownBlock ∧ some k_ ≠ (v591 : Value).ownBlock ∧ k_ ≠ gb585)) (by (with_reducible repeat (first | apply Kd.R_alloc | apply Kd.R_drewN | apply Kd.R_drew)); exact Kd.R_mono HO_580001.out (fun _ hk => ⟨⟨hk.2.2.2.2.1, ⟨hk.2.2.2.1, ⟨hk.1, ⟨hk.2.1, hk.2.2.2.2.2⟩⟩⟩⟩, hk.2.2.1⟩)) hg hat)
               have n3_ := Aside0.mk (blk_grown (g := gb579) (o := .cells #[.int .i64 t574, .slice Ao10 t575.length co10] 24 (0, 0)) (zK BK579) hg (Kd.R_ne HO595.out BK579.out (by decide)))
               have n4_ := Aside0.mk (blk_grown (g := gb585) (o := .cells #[.int .i64 ((rd_T42 t580 x24_1).f0), .int .i64 ((rd_T42 t580 x24_1).f1)] 42 (0, 0)) (zK BK585) hg (Kd.R_away HO595.out (fun _ hk => hk.2.2.2.2.2)))
               have n5_ := Aside0.mk (Kd.R_after (ok := (fun k_ => some k_ ≠ (.slice Ao30 x6_1.length co30 : Value).ownBlock ∧ some k_ ≠ (.slice (some ad584) t580.length co12 : Value).ownBlock ∧ some k_ ≠ (.slice Ao10 t575.length co10 : Value).ownBlock ∧ some k_ ≠ (v591 : Value).ownBlock ∧ k_ ≠ gb585)) (by (with_reducible repeat (first | apply Kd.R_alloc | apply Kd.R_drewN | apply Kd.R_drew)); exact Kd.R_mono HO589.out (fun _ hk => ⟨⟨hk.2.2.2.2.1, ⟨hk.2.2.1, ⟨hk.2.2.2.1, ⟨hk.1, hk.2.2.2.2.2⟩⟩⟩⟩, hk.2.1⟩)) hg hat)
               have n6_ := Aside0.mk (Kd.R_after (ok := (fun k_ => some k_ ≠ (.slice Ao30 x6_1.length co30 : Value).ownBlock ∧ some k_ ≠ (.slice (some ad584) t580.length co12 : Value).ownBlock ∧ some k_ ≠ (.slice Ao10 t575.length co10 : Value).ownBlock ∧ some k_ ≠ (v588 : Value).ownBlock ∧ k_ ≠ gb585)) (by (with_reducible repeat (first | apply Kd.R_alloc | apply Kd.R_drewN | apply Kd.R_drew)); exact Kd.R_mono HO592.out (fun _ hk => ⟨⟨hk.2.2.2.2.1, ⟨hk.2.2.1, ⟨hk.2.2.2.1, ⟨hk.1, hk.2.2.2.2.2⟩⟩⟩⟩, hk.2.1⟩)) hg hat)
               have n7_ := Aside0.mk (hb)
               have n8_ := Aside0.mk (ho)
               clear HO_6
               clear HO_22
               clear HO_580001
               clear BK579
               clear BK585
               clear HO589
               clear HO592
               clear HB
               clear HO595
               have HO_6 := n0_
               have HO_22 := n1_
               have HO_580001 := n2_
               have BK579 := n3_
               have BK585 := n4_
               have HO589 := n5_
               have HO592 := n6_
               have HB := n7_
               have HO598 := n8_
               clear n0_ n1_ n2_ n3_ n4_ n5_ n6_ n7_ n8_
               clear ho hb hg hat
               refine hK.out _ _ ⟨(blk_cell BK585.out 0).trans rfl, (blk_cell BK585.out 1).trans rfl⟩ (fun hHeld => ?_)
               clear hK K
               refine norm_ (a' := ?_) ?_ ?_
               rotate_left
               · show Act.put _ (some 39) _ = _
                 simp only [Act.put, List.setIfInBounds_toArray, List.set_cons_zero, List.set_cons_succ, i64_w, i32_w]
                 rfl
               refine pure_ (i := 8) (N := some 5) (v := ?_) (a' := ?_) #[true, true, true, true, true, true, true, true, true, false] rfl rfl (any_of HT_.out (by kernel_rfl)) (fun _ _ _ h => h) (Or.inl ⟨by rfl, ?_⟩) ?_ ?_
               rotate_left
               · intro w'
                 go_simp
                 with_reducible rfl
               rotate_left
               · simp only [Act.put, List.setIfInBounds_toArray, List.set_cons_zero, List.set_cons_succ, i64_w, i32_w]
                 rfl
               refine pure_ (i := 9) (N := some 6) (v := ?_) (a' := ?_) #[true, true, true, true, true, true, true, true, true, true] rfl rfl (any_of HT_.out (by kernel_rfl)) (fun _ _ _ h => h) (Or.inl ⟨by rfl, ?_⟩) ?_ ?_
               rotate_left
               · intro w'
                 go_simp
                 with_reducible rfl
               rotate_left
               · simp only [Act.put, List.setIfInBounds_toArray, List.set_cons_zero, List.set_cons_succ, i64_w, i32_w]
                 rfl
               refine done_ (done_of HT_.out (by kernel_rfl)) ?_
               try go_wp2
               go_roundg k1
               case measure => have := HK1.out; omega
               case rel => exact ⟨(y590), (y596), (wrap64 (x24_1 + 1)), (by first | rfl | (simp; done) | (simp [*]; done)), H', ⟨by have := HK1.out; omega⟩, ⟨by (with_reducible repeat (first | apply Kd.R_alloc | apply Kd.R_drewN | apply Kd.R_drew)); exact Kd.R_mono HO592.out (fun _ hk => ⟨hk.2, ⟨hk.1.2.1, hk.1.2.2.1⟩⟩)⟩, ⟨by (with_reducible repeat (first | apply Kd.R_alloc | apply Kd.R_drewN | apply Kd.R_drew)); exact Kd.R_mono HO598.out (fun _ hk => ⟨hk.2.2.2.2.1, ⟨hk.2.1, hk.2.2.1⟩⟩)⟩, ⟨by (with_reducible repeat (first | apply Kd.R_alloc | apply Kd.R_drewN | apply Kd.R_drew)); exact Kd.R_mono HO_22.out (fun _ hk => ⟨hk.1.2.2.2.1, ⟨hk.2, hk.1.2.1⟩⟩)⟩, ⟨by (with_reducible repeat (first | apply Kd.R_alloc | apply Kd.R_drewN | apply Kd.R_drew)); exact Kd.R_mono HO_580001.out (fun _ hk => ⟨hk.1.2.2.2.1, ⟨hk.2, hk.1.2.1⟩⟩)⟩, ⟨zK BK579⟩, ⟨zB HB⟩⟩
             · rw [if_neg c24] at H
               exact absurd H (by simp)
           · rw [if_neg c23] at H
             exact absurd H (by simp)
       · rw [if_neg c15] at H
         exact absurd H (by simp)
     · rw [if_neg c14] at H
       exact absurd H (by simp)
   · rw [if_neg c13] at H
     have c13b0 : decide (x24_1 < (t580.length : Int)) = false := decide_eq_false c13
     clear c13
     replace H := Option.bind_eq_some_iff.mp H
     obtain ⟨⟨t599, t600, t603⟩, A400, H⟩ := H
     replace H : ((enforce_Toggle.f k1 t574 t575 x6_1).bind fun bt605 => ((enforce_Toggle.f k1 t599 t600 x5_1).bind fun bt611 => (if t603 = 0 then (if bt605.2.2 = 0 then (if bt611.2.2 = 0 then ((deliberationnet_Same.f k1 t599 t600 bt605.1 bt605.2.1).bind fun t617 => (if t617 = true then ((deliberationnet_Same.f k1 bt611.1 bt611.2.1 t574 t575).bind fun t618 => (if t618 = true then ((deliberationlaw21_awake.f k1).bind fun t619 => (some t619)) else (some false))) else (some false))) else (some false)) else (some false)) else (some false)))) = some true := H
     have A40 := Aside0.mk A400
     clear A400
     replace H := Option.bind_eq_some_iff.mp H
     obtain ⟨⟨t605, t606, t609⟩, A410, H⟩ := H
     replace H : ((enforce_Toggle.f k1 t599 t600 x5_1).bind fun bt611 => (if t603 = 0 then (if t609 = 0 then (if bt611.2.2 = 0 then ((deliberationnet_Same.f k1 t599 t600 t605 t606).bind fun t617 => (if t617 = true then ((deliberationnet_Same.f k1 bt611.1 bt611.2.1 t574 t575).bind fun t618 => (if t618 = true then ((deliberationlaw21_awake.f k1).bind fun t619 => (some t619)) else (some false))) else (some false))) else (some false)) else (some false)) else (some false))) = some true := H
     have A41 := Aside0.mk A410
     clear A410
     replace H := Option.bind_eq_some_iff.mp H
     obtain ⟨⟨t611, t612, t615⟩, A420, H⟩ := H
     replace H : (if t603 = 0 then (if t609 = 0 then (if t615 = 0 then ((deliberationnet_Same.f k1 t599 t600 t605 t606).bind fun t617 => (if t617 = true then ((deliberationnet_Same.f k1 t611 t612 t574 t575).bind fun t618 => (if t618 = true then ((deliberationlaw21_awake.f k1).bind fun t619 => (some t619)) else (some false))) else (some false))) else (some false)) else (some false)) else (some false)) = some true := H
     have A42 := Aside0.mk A420
     clear A420
     by_cases c43 : t603 = 0
     · rw [if_pos c43] at H
       have c43b0 : (t603 == 0) = true := beq_iff_eq.mpr c43
       have c43b1 : (t603 != 0) = false := bne_eq_false_iff_eq.mpr c43
       clear c43
       by_cases c44 : t609 = 0
       · rw [if_pos c44] at H
         have c44b0 : (t609 == 0) = true := beq_iff_eq.mpr c44
         have c44b1 : (t609 != 0) = false := bne_eq_false_iff_eq.mpr c44
         clear c44
         by_cases c45 : t615 = 0
         · rw [if_pos c45] at H
           have c45b0 : (t615 == 0) = true := beq_iff_eq.mpr c45
           have c45b1 : (t615 != 0) = false := bne_eq_false_iff_eq.mpr c45
           clear c45
           replace H := Option.bind_eq_some_iff.mp H
           obtain ⟨t617, A460, H⟩ := H
           replace H : (if t617 = true then ((deliberationnet_Same.f k1 t611 t612 t574 t575).bind fun t618 => (if t618 = true then ((deliberationlaw21_awake.f k1).bind fun t619 => (some t619)) else (some false))) else (some false)) = some true := H
           have A46 := Aside0.mk A460
           clear A460
           by_cases c47 : t617 = true
           · subst c47
             have H1 : ((deliberationnet_Same.f k1 t611 t612 t574 t575).bind fun t618 => (if t618 = true then ((deliberationlaw21_awake.f k1).bind fun t619 => (some t619)) else (some false))) = some true := by rw [if_pos rfl] at H; exact H
             clear H
             have H := H1
             clear H1
             replace H := Option.bind_eq_some_iff.mp H
             obtain ⟨t618, A480, H⟩ := H
             replace H : (if t618 = true then ((deliberationlaw21_awake.f k1).bind fun t619 => (some t619)) else (some false)) = some true := H
             have A48 := Aside0.mk A480
             clear A480
             by_cases c49 : t618 = true
             · subst c49
               have H1 : ((deliberationlaw21_awake.f k1).bind fun t619 => (some t619)) = some true := by rw [if_pos rfl] at H; exact H
               clear H
               have H := H1
               clear H1
               replace H := Option.bind_eq_some_iff.mp H
               obtain ⟨t619, A500, H⟩ := H
               replace H : (some t619) = some true := H
               have A50 := Aside0.mk A500
               clear A500
               obtain rfl := Option.some.inj H
               have hcz51_0 : wr.cell? ⟨gb579, 0, none⟩ = some (.int .i64 t574) := (blk_cell BK579.out 0).trans rfl
               have hcz51_1 : wr.cell? ⟨gb579, 1, none⟩ = some (.slice Ao10 t575.length co10) := (blk_cell BK579.out 1).trans rfl
               have hfz51_0 := blk_frozen BK579.out 0
               have hfz51_1 := blk_frozen BK579.out 1
               obtain ⟨Ao52, co52, eo52⟩ := Kd.R_slice HO_5.out
               subst eo52
               go_wp2_with (first | ((with_reducible refine gate_callee (f := 21) rfl ?_); refine goesL_ (some 44) rfl rfl Tryd.func21 (by kernel_rfl) rfl #[.agg #[.int .i64 t574, .slice Ao10 t575.length co10], .slice Ao52 x5_1.length co52] rfl (by (try simp only [List.map_toArray, List.map_cons, List.map_nil]); first | done | rfl | (simp only [List.length_drop, List.length_take]; rfl)) ?_; (with_reducible refine (enforce_Toggle.calls k1 t574 _ _ t575 _ _ x5_1 t599 t600 t603 _ ?side1 ?side2 ?side3 ?side4 A40.out).mono ?_); (case side1 => repeat (first | exact (Kd.R_reads' HO_580001.out).2.2 | (with_reducible refine Kd.C_alloc ?_ _) | (with_reducible refine Kd.C_drewN ?_ _) | (with_reducible refine Kd.C_drew ?_))); (case side2 => exact (Kd.R_reads' HO_580001.out).2.1); (case side3 => repeat (first | exact (Kd.R_reads' HO_5.out).2.2 | (with_reducible refine Kd.C_alloc ?_ _) | (with_reducible refine Kd.C_drewN ?_ _) | (with_reducible refine Kd.C_drew ?_))); (case side4 => exact (Kd.R_reads' HO_5.out).2.1); rintro e w53 ⟨v601, rfl, ho0, hb⟩; refine ⟨_, rfl, ?_⟩; have n0_ := Aside0.mk (Kd.R_elder' (zR HO_5) (Kd.R_base ho0) hb); have n1_ := Aside0.mk (Kd.R_elder' (zR HO_6) (Kd.R_base ho0) hb); have n2_ := Aside0.mk (Kd.R_elder' (zR HO_22) (Kd.R_base ho0) hb); have n3_ := Aside0.mk (Kd.R_elder' (zR HO_580001) (Kd.R_base ho0) hb); have n4_ := Aside0.mk (Kd.R_lower (Kd.R_new' (Kd.R_new' (Kd.R_new' (Kd.R_new' ho0 (Kd.R_lt (zR HO_5))) (Kd.R_lt (zR HO_6))) (Kd.R_lt (zR HO_22))) (Kd.R_lt (zR HO_580001))) (below_size (zB HB))); have n5_ := Aside0.mk (blk_below (g := gb579) (o := .cells #[.int .i64 t574, .slice Ao10 t575.length co10] 24 (0, 0)) (zK BK579) hb); have n6_ := Aside0.mk (below_step (zB HB) hb); clear HO_5; clear HO_6; clear HO_22; clear HO_580001; clear BK579; clear HB; have HO_5 := n0_; have HO_6 := n1_; have HO_22 := n2_; have HO_580001 := n3_; have HO602 := n4_; have BK579 := n5_; have HB := n6_; clear n0_ n1_ n2_ n3_ n4_ n5_ n6_; (try clear hb); (try clear hb2); (try clear hk); (try clear hi); (try clear ho0)) | ((with_reducible refine gate_dst (N := 9) rfl ?_); refine box_event ?hg (N := 9) ?hd (cs := #[.int .i64 0, .slice none 0 0]) (t := 24) ?hr ?_; (case hd => rfl); (case hg => rfl); (case hr => first | (go_simp; done) | (go_simp; rfl)); intro gb604 hg w54 hbox hb; have n0_ := Aside0.mk (Kd.R_below (zR HO_5) hb); have n1_ := Aside0.mk (Kd.R_below (zR HO_6) hb); have n2_ := Aside0.mk (Kd.R_below (zR HO_22) hb); have n3_ := Aside0.mk (Kd.R_below (zR HO_580001) hb); have n4_ := Aside0.mk (Kd.R_below (zR HO602) hb); have n5_ := Aside0.mk (blk_below (g := gb579) (o := .cells #[.int .i64 t574, .slice Ao10 t575.length co10] 24 (0, 0)) (zK BK579) hb); have n6_ := Aside0.mk (below_step (zB HB) hb); have n7_ := Aside0.mk (hbox); have n8_ := Aside0.mk ((by rw [hg]; exact (below_size (zB HB)) : w.heap.size ≤ gb604)); have n9_ := Aside0.mk ((by rw [hg]; exact (below_size (zB HB)) : w.heap.size ≤ gb604)); have n10_ := Aside0.mk ((by rw [hg]; exact Nat.ne_of_lt (blk_lt (g := gb579) (o := .cells #[.int .i64 t574, .slice Ao10 t575.length co10] 24 (0, 0)) (zK BK579)) : gb579 ≠ gb604)); have n11_ := Aside0.mk ((by rw [hg]; exact Nat.ne_of_gt (blk_lt (g := gb579) (o := .cells #[.int .i64 t574, .slice Ao10 t575.length co10] 24 (0, 0)) (zK BK579)) : gb604 ≠ gb579)); clear HO_5; clear HO_6; clear HO_22; clear HO_580001; clear HO602; clear BK579; clear HB; have HO_5 := n0_; have HO_6 := n1_; have HO_22 := n2_; have HO_580001 := n3_; have HO602 := n4_; have BK579 := n5_; have HB := n6_; have BK604 := n7_; have GW604 := n8_; have GE604 := n9_; have NB579_604 := n10_; have NB604_579 := n11_; clear n0_ n1_ n2_ n3_ n4_ n5_ n6_ n7_ n8_ n9_ n10_ n11_; clear hb hbox hg; have hnb55 := NB604_579.out; have hnc55 := NB579_604.out; have hcz56_0 : w54.cell? ⟨gb604, 0, none⟩ = some (.int .i64 0) := (blk_cell BK604.out 0).trans rfl; have hcz56_1 : w54.cell? ⟨gb604, 1, none⟩ = some (.slice none 0 0) := (blk_cell BK604.out 1).trans rfl; have hfz56_0 := blk_frozen BK604.out 0; have hfz56_1 := blk_frozen BK604.out 1; obtain ⟨Ao57, co57, eo57⟩ := Kd.R_slice HO602.out; subst eo57; have hcz58_0 : w54.cell? ⟨gb579, 0, none⟩ = some (.int .i64 t574) := (blk_cell BK579.out 0).trans rfl; have hcz58_1 : w54.cell? ⟨gb579, 1, none⟩ = some (.slice Ao10 t575.length co10) := (blk_cell BK579.out 1).trans rfl; have hfz58_0 := blk_frozen BK579.out 0; have hfz58_1 := blk_frozen BK579.out 1; obtain ⟨Ao59, co59, eo59⟩ := Kd.R_slice HO_6.out; subst eo59) | ((with_reducible refine gate_callee (f := 21) rfl ?_); refine goesL_ (some 50) rfl rfl Tryd.func21 (by kernel_rfl) rfl #[.agg #[.int .i64 t574, .slice Ao10 t575.length co10], .slice Ao59 x6_1.length co59] rfl (by (try simp only [List.map_toArray, List.map_cons, List.map_nil]); first | done | rfl | (simp only [List.length_drop, List.length_take]; rfl)) ?_; (with_reducible refine (enforce_Toggle.calls k1 t574 _ _ t575 _ _ x6_1 t605 t606 t609 _ ?side1 ?side2 ?side3 ?side4 A41.out).mono ?_); (case side1 => refine (Kd.R_reads' (e := 42) (base := w.heap.size) (ok := fun k_ => ((some k_ ≠ (.slice Ao52 x5_1.length co52 : Value).ownBlock ∧ (some k_ ≠ (.slice Ao59 x6_1.length co59 : Value).ownBlock ∧ some k_ ≠ (.slice Ao12 t580.length co12 : Value).ownBlock)) ∧ some k_ ≠ (.slice Ao57 t600.length co57 : Value).ownBlock)) (n := t575.length) (c := co10) ?_).2.2; exact (by (with_reducible repeat (first | apply Kd.R_alloc | apply Kd.R_drewN | apply Kd.R_drew)); exact (Kd.R_mono (Kd.R_far (p := ⟨gb604, 1, none⟩) (Kd.R_far (p := ⟨gb604, 0, none⟩) (Kd.R_types HO_580001.out BK604.out (by decide)) (fun _ hk => hk.2) (.int .i64 t599)) (fun _ hk => hk.2) (.slice Ao57 t600.length co57)) (fun _ h_ => h_.1)))); (case side2 => exact (Kd.R_reads' HO_580001.out).2.1); (case side3 => refine (Kd.R_reads' (e := 42) (base := w.heap.size) (ok := fun k_ => ((some k_ ≠ (.slice Ao52 x5_1.length co52 : Value).ownBlock ∧ (some k_ ≠ (.slice Ao12 t580.length co12 : Value).ownBlock ∧ some k_ ≠ (.slice Ao10 t575.length co10 : Value).ownBlock)) ∧ some k_ ≠ (.slice Ao57 t600.length co57 : Value).ownBlock)) (n := x6_1.length) (c := co59) ?_).2.2; exact (by (with_reducible repeat (first | apply Kd.R_alloc | apply Kd.R_drewN | apply Kd.R_drew)); exact (Kd.R_mono (Kd.R_far (p := ⟨gb604, 1, none⟩) (Kd.R_far (p := ⟨gb604, 0, none⟩) (Kd.R_types HO_6.out BK604.out (by decide)) (fun _ hk => hk.2) (.int .i64 t599)) (fun _ hk => hk.2) (.slice Ao57 t600.length co57)) (fun _ h_ => h_.1)))); (case side4 => exact (Kd.R_reads' HO_6.out).2.1); rintro e w60 ⟨v607, rfl, ho0, hb⟩; refine ⟨_, rfl, ?_⟩; have n0_ := Aside0.mk (Kd.R_elder' (by (with_reducible repeat (first | apply Kd.R_alloc | apply Kd.R_drewN | apply Kd.R_drew)); exact (Kd.R_mono (Kd.R_far (p := ⟨gb604, 1, none⟩) (Kd.R_far (p := ⟨gb604, 0, none⟩) (Kd.R_types HO_5.out BK604.out (by decide)) (fun _ hk => hk.2) (.int .i64 t599)) (fun _ hk => hk.2) (.slice Ao57 t600.length co57)) (fun _ h_ => h_.1))) (Kd.R_base ho0) hb); have n1_ := Aside0.mk (Kd.R_elder' (by (with_reducible repeat (first | apply Kd.R_alloc | apply Kd.R_drewN | apply Kd.R_drew)); exact (Kd.R_mono (Kd.R_far (p := ⟨gb604, 1, none⟩) (Kd.R_far (p := ⟨gb604, 0, none⟩) (Kd.R_types HO_6.out BK604.out (by decide)) (fun _ hk => hk.2) (.int .i64 t599)) (fun _ hk => hk.2) (.slice Ao57 t600.length co57)) (fun _ h_ => h_.1))) (Kd.R_base ho0) hb); have n2_ := Aside0.mk (Kd.R_elder' (by (with_reducible repeat (first | apply Kd.R_alloc | apply Kd.R_drewN | apply Kd.R_drew)); exact (Kd.R_mono (Kd.R_far (p := ⟨gb604, 1, none⟩) (Kd.R_far (p := ⟨gb604, 0, none⟩) (Kd.R_types HO_22.out BK604.out (by decide)) (fun _ hk => hk.2) (.int .i64 t599)) (fun _ hk => hk.2) (.slice Ao57 t600.length co57)) (fun _ h_ => h_.1))) (Kd.R_base ho0) hb); have n3_ := Aside0.mk (Kd.R_elder' (by (with_reducible repeat (first | apply Kd.R_alloc | apply Kd.R_drewN | apply Kd.R_drew)); exact (Kd.R_mono (Kd.R_far (p := ⟨gb604, 1, none⟩) (Kd.R_far (p := ⟨gb604, 0, none⟩) (Kd.R_types HO_580001.out BK604.out (by decide)) (fun _ hk => hk.2) (.int .i64 t599)) (fun _ hk => hk.2) (.slice Ao57 t600.length co57)) (fun _ h_ => h_.1))) (Kd.R_base ho0) hb); have n4_ := Aside0.mk (Kd.R_elder' (by (with_reducible repeat (first | apply Kd.R_alloc | apply Kd.R_drewN | apply Kd.R_drew)); exact (Kd.R_mono (Kd.R_far (p := ⟨gb604, 1, none⟩) (Kd.R_far (p := ⟨gb604, 0, none⟩) (Kd.R_types HO602.out BK604.out (by decide)) (fun _ hk => hk.2) (.int .i64 t599)) (fun _ hk => hk.2) (.slice Ao57 t600.length co57)) (fun _ h_ => h_.1))) (Kd.R_base ho0) hb); have n5_ := Aside0.mk (Kd.R_lower (Kd.R_new' (Kd.R_new' (Kd.R_new' (Kd.R_new' (Kd.R_new' ho0 (Kd.R_lt (by (with_reducible repeat (first | apply Kd.R_alloc | apply Kd.R_drewN | apply Kd.R_drew)); exact (Kd.R_mono (Kd.R_far (p := ⟨gb604, 1, none⟩) (Kd.R_far (p := ⟨gb604, 0, none⟩) (Kd.R_types HO_5.out BK604.out (by decide)) (fun _ hk => hk.2) (.int .i64 t599)) (fun _ hk => hk.2) (.slice Ao57 t600.length co57)) (fun _ h_ => h_.1))))) (Kd.R_lt (by (with_reducible repeat (first | apply Kd.R_alloc | apply Kd.R_drewN | apply Kd.R_drew)); exact (Kd.R_mono (Kd.R_far (p := ⟨gb604, 1, none⟩) (Kd.R_far (p := ⟨gb604, 0, none⟩) (Kd.R_types HO_6.out BK604.out (by decide)) (fun _ hk => hk.2) (.int .i64 t599)) (fun _ hk => hk.2) (.slice Ao57 t600.length co57)) (fun _ h_ => h_.1))))) (Kd.R_lt (by (with_reducible repeat (first | apply Kd.R_alloc | apply Kd.R_drewN | apply Kd.R_drew)); exact (Kd.R_mono (Kd.R_far (p := ⟨gb604, 1, none⟩) (Kd.R_far (p := ⟨gb604, 0, none⟩) (Kd.R_types HO_22.out BK604.out (by decide)) (fun _ hk => hk.2) (.int .i64 t599)) (fun _ hk => hk.2) (.slice Ao57 t600.length co57)) (fun _ h_ => h_.1))))) (Kd.R_lt (by (with_reducible repeat (first | apply Kd.R_alloc | apply Kd.R_drewN | apply Kd.R_drew)); exact (Kd.R_mono (Kd.R_far (p := ⟨gb604, 1, none⟩) (Kd.R_far (p := ⟨gb604, 0, none⟩) (Kd.R_types HO_580001.out BK604.out (by decide)) (fun _ hk => hk.2) (.int .i64 t599)) (fun _ hk => hk.2) (.slice Ao57 t600.length co57)) (fun _ h_ => h_.1))))) (Kd.R_lt (by (with_reducible repeat (first | apply Kd.R_alloc | apply Kd.R_drewN | apply Kd.R_drew)); exact (Kd.R_mono (Kd.R_far (p := ⟨gb604, 1, none⟩) (Kd.R_far (p := ⟨gb604, 0, none⟩) (Kd.R_types HO602.out BK604.out (by decide)) (fun _ hk => hk.2) (.int .i64 t599)) (fun _ hk => hk.2) (.slice Ao57 t600.length co57)) (fun _ h_ => h_.1))))) (below_size (zB HB))); have n6_ := Aside0.mk (blk_below (g := gb579) (o := .cells #[.int .i64 t574, .slice Ao10 t575.length co10] 24 (0, 0)) (by (with_reducible repeat (first | refine blk_drewN ?_ _ | refine blk_drew ?_ | refine blk_alloc ?_ _)); refine blk_far ?_ NB579_604.out _; (with_reducible repeat (first | refine blk_drewN ?_ _ | refine blk_drew ?_ | refine blk_alloc ?_ _)); refine blk_far ?_ NB579_604.out _; (with_reducible repeat (first | refine blk_drewN ?_ _ | refine blk_drew ?_ | refine blk_alloc ?_ _)); exact BK579.out) hb); have n7_ := Aside0.mk (blk_below (g := gb604) (o := .cells #[.int .i64 t599, .slice Ao57 t600.length co57] 24 (0, 0)) (by (with_reducible repeat (first | refine blk_drewN ?_ _ | refine blk_drew ?_ | refine blk_alloc ?_ _)); refine blk_put (cs := #[.int .i64 t599, .slice none 0 0]) ?_ 1 _ rfl; (with_reducible repeat (first | refine blk_drewN ?_ _ | refine blk_drew ?_ | refine blk_alloc ?_ _)); refine blk_put (cs := #[.int .i64 0, .slice none 0 0]) ?_ 0 _ rfl; (with_reducible repeat (first | refine blk_drewN ?_ _ | refine blk_drew ?_ | refine blk_alloc ?_ _)); exact BK604.out) hb); have n8_ := Aside0.mk (below_step (zB HB) hb); clear HO_5; clear HO_6; clear HO_22; clear HO_580001; clear HO602; clear BK579; clear BK604; clear HB; have HO_5 := n0_; have HO_6 := n1_; have HO_22 := n2_; have HO_580001 := n3_; have HO602 := n4_; have HO608 := n5_; have BK579 := n6_; have BK604 := n7_; have HB := n8_; clear n0_ n1_ n2_ n3_ n4_ n5_ n6_ n7_ n8_; (try clear hb); (try clear hb2); (try clear hk); (try clear hi); (try clear ho0)) | ((with_reducible refine gate_dst (N := 11) rfl ?_); refine box_event ?hg (N := 11) ?hd (cs := #[.int .i64 0, .slice none 0 0]) (t := 24) ?hr ?_; (case hd => rfl); (case hg => rfl); (case hr => first | (go_simp; done) | (go_simp; rfl)); intro gb610 hg w61 hbox hb; have n0_ := Aside0.mk (Kd.R_below (zR HO_5) hb); have n1_ := Aside0.mk (Kd.R_below (zR HO_6) hb); have n2_ := Aside0.mk (Kd.R_below (zR HO_22) hb); have n3_ := Aside0.mk (Kd.R_below (zR HO_580001) hb); have n4_ := Aside0.mk (Kd.R_below (zR HO602) hb); have n5_ := Aside0.mk (Kd.R_below (zR HO608) hb); have n6_ := Aside0.mk (blk_below (g := gb579) (o := .cells #[.int .i64 t574, .slice Ao10 t575.length co10] 24 (0, 0)) (zK BK579) hb); have n7_ := Aside0.mk (blk_below (g := gb604) (o := .cells #[.int .i64 t599, .slice Ao57 t600.length co57] 24 (0, 0)) (zK BK604) hb); have n8_ := Aside0.mk (below_step (zB HB) hb); have n9_ := Aside0.mk (hbox); have n10_ := Aside0.mk ((by rw [hg]; exact (below_size (zB HB)) : w.heap.size ≤ gb610)); have n11_ := Aside0.mk ((by rw [hg]; exact (below_size (zB HB)) : w.heap.size ≤ gb610)); have n12_ := Aside0.mk ((by rw [hg]; exact Nat.ne_of_lt (blk_lt (g := gb579) (o := .cells #[.int .i64 t574, .slice Ao10 t575.length co10] 24 (0, 0)) (zK BK579)) : gb579 ≠ gb610)); have n13_ := Aside0.mk ((by rw [hg]; exact Nat.ne_of_gt (blk_lt (g := gb579) (o := .cells #[.int .i64 t574, .slice Ao10 t575.length co10] 24 (0, 0)) (zK BK579)) : gb610 ≠ gb579)); have n14_ := Aside0.mk ((by rw [hg]; exact Nat.ne_of_lt (blk_lt (g := gb604) (o := .cells #[.int .i64 t599, .slice Ao57 t600.length co57] 24 (0, 0)) (zK BK604)) : gb604 ≠ gb610)); have n15_ := Aside0.mk ((by rw [hg]; exact Nat.ne_of_gt (blk_lt (g := gb604) (o := .cells #[.int .i64 t599, .slice Ao57 t600.length co57] 24 (0, 0)) (zK BK604)) : gb610 ≠ gb604)); clear HO_5; clear HO_6; clear HO_22; clear HO_580001; clear HO602; clear HO608; clear BK579; clear BK604; clear HB; have HO_5 := n0_; have HO_6 := n1_; have HO_22 := n2_; have HO_580001 := n3_; have HO602 := n4_; have HO608 := n5_; have BK579 := n6_; have BK604 := n7_; have HB := n8_; have BK610 := n9_; have GW610 := n10_; have GE610 := n11_; have NB579_610 := n12_; have NB610_579 := n13_; have NB604_610 := n14_; have NB610_604 := n15_; clear n0_ n1_ n2_ n3_ n4_ n5_ n6_ n7_ n8_ n9_ n10_ n11_ n12_ n13_ n14_ n15_; clear hb hbox hg; have hnb62 := NB610_579.out; have hnc62 := NB579_610.out; have hnb63 := NB610_604.out; have hnc63 := NB604_610.out; have hcz64_0 : w61.cell? ⟨gb610, 0, none⟩ = some (.int .i64 0) := (blk_cell BK610.out 0).trans rfl; have hcz64_1 : w61.cell? ⟨gb610, 1, none⟩ = some (.slice none 0 0) := (blk_cell BK610.out 1).trans rfl; have hfz64_0 := blk_frozen BK610.out 0; have hfz64_1 := blk_frozen BK610.out 1; obtain ⟨Ao65, co65, eo65⟩ := Kd.R_slice HO608.out; subst eo65; have hcz66_0 : w61.cell? ⟨gb604, 0, none⟩ = some (.int .i64 t599) := (blk_cell BK604.out 0).trans rfl; have hcz66_1 : w61.cell? ⟨gb604, 1, none⟩ = some (.slice Ao57 t600.length co57) := (blk_cell BK604.out 1).trans rfl; have hfz66_0 := blk_frozen BK604.out 0; have hfz66_1 := blk_frozen BK604.out 1) | ((with_reducible refine gate_callee (f := 21) rfl ?_); refine goesL_ (some 56) rfl rfl Tryd.func21 (by kernel_rfl) rfl #[.agg #[.int .i64 t599, .slice Ao57 t600.length co57], .slice Ao52 x5_1.length co52] rfl (by (try simp only [List.map_toArray, List.map_cons, List.map_nil]); first | done | rfl | (simp only [List.length_drop, List.length_take]; rfl)) ?_; (with_reducible refine (enforce_Toggle.calls k1 t599 _ _ t600 _ _ x5_1 t611 t612 t615 _ ?side1 ?side2 ?side3 ?side4 A42.out).mono ?_); (case side1 => refine (Kd.R_reads' (e := 42) (base := w.heap.size) (ok := fun k_ => (((((True ∧ some k_ ≠ (.slice Ao52 x5_1.length co52 : Value).ownBlock) ∧ some k_ ≠ (.slice Ao59 x6_1.length co59 : Value).ownBlock) ∧ some k_ ≠ (.slice Ao12 t580.length co12 : Value).ownBlock) ∧ some k_ ≠ (.slice Ao10 t575.length co10 : Value).ownBlock) ∧ some k_ ≠ (.slice Ao65 t606.length co65 : Value).ownBlock)) (n := t600.length) (c := co57) ?_).2.2; exact (by (with_reducible repeat (first | apply Kd.R_alloc | apply Kd.R_drewN | apply Kd.R_drew)); exact (Kd.R_mono (Kd.R_far (p := ⟨gb610, 1, none⟩) (Kd.R_far (p := ⟨gb610, 0, none⟩) (Kd.R_types HO602.out BK610.out (by decide)) (fun _ hk => hk.2) (.int .i64 t605)) (fun _ hk => hk.2) (.slice Ao65 t606.length co65)) (fun _ h_ => h_.1)))); (case side2 => exact (Kd.R_reads' HO602.out).2.1); (case side3 => refine (Kd.R_reads' (e := 42) (base := w.heap.size) (ok := fun k_ => (((some k_ ≠ (.slice Ao59 x6_1.length co59 : Value).ownBlock ∧ (some k_ ≠ (.slice Ao12 t580.length co12 : Value).ownBlock ∧ some k_ ≠ (.slice Ao10 t575.length co10 : Value).ownBlock)) ∧ some k_ ≠ (.slice Ao57 t600.length co57 : Value).ownBlock) ∧ some k_ ≠ (.slice Ao65 t606.length co65 : Value).ownBlock)) (n := x5_1.length) (c := co52) ?_).2.2; exact (by (with_reducible repeat (first | apply Kd.R_alloc | apply Kd.R_drewN | apply Kd.R_drew)); exact (Kd.R_mono (Kd.R_far (p := ⟨gb610, 1, none⟩) (Kd.R_far (p := ⟨gb610, 0, none⟩) (Kd.R_types HO_5.out BK610.out (by decide)) (fun _ hk => hk.2) (.int .i64 t605)) (fun _ hk => hk.2) (.slice Ao65 t606.length co65)) (fun _ h_ => h_.1)))); (case side4 => exact (Kd.R_reads' HO_5.out).2.1); rintro e w67 ⟨v613, rfl, ho0, hb⟩; refine ⟨_, rfl, ?_⟩; have n0_ := Aside0.mk (Kd.R_elder' (by (with_reducible repeat (first | apply Kd.R_alloc | apply Kd.R_drewN | apply Kd.R_drew)); exact (Kd.R_mono (Kd.R_far (p := ⟨gb610, 1, none⟩) (Kd.R_far (p := ⟨gb610, 0, none⟩) (Kd.R_types HO_5.out BK610.out (by decide)) (fun _ hk => hk.2) (.int .i64 t605)) (fun _ hk => hk.2) (.slice Ao65 t606.length co65)) (fun _ h_ => h_.1))) (Kd.R_base ho0) hb); have n1_ := Aside0.mk (Kd.R_elder' (by (with_reducible repeat (first | apply Kd.R_alloc | apply Kd.R_drewN | apply Kd.R_drew)); exact (Kd.R_mono (Kd.R_far (p := ⟨gb610, 1, none⟩) (Kd.R_far (p := ⟨gb610, 0, none⟩) (Kd.R_types HO_6.out BK610.out (by decide)) (fun _ hk => hk.2) (.int .i64 t605)) (fun _ hk => hk.2) (.slice Ao65 t606.length co65)) (fun _ h_ => h_.1))) (Kd.R_base ho0) hb); have n2_ := Aside0.mk (Kd.R_elder' (by (with_reducible repeat (first | apply Kd.R_alloc | apply Kd.R_drewN | apply Kd.R_drew)); exact (Kd.R_mono (Kd.R_far (p := ⟨gb610, 1, none⟩) (Kd.R_far (p := ⟨gb610, 0, none⟩) (Kd.R_types HO_22.out BK610.out (by decide)) (fun _ hk => hk.2) (.int .i64 t605)) (fun _ hk => hk.2) (.slice Ao65 t606.length co65)) (fun _ h_ => h_.1))) (Kd.R_base ho0) hb); have n3_ := Aside0.mk (Kd.R_elder' (by (with_reducible repeat (first | apply Kd.R_alloc | apply Kd.R_drewN | apply Kd.R_drew)); exact (Kd.R_mono (Kd.R_far (p := ⟨gb610, 1, none⟩) (Kd.R_far (p := ⟨gb610, 0, none⟩) (Kd.R_types HO_580001.out BK610.out (by decide)) (fun _ hk => hk.2) (.int .i64 t605)) (fun _ hk => hk.2) (.slice Ao65 t606.length co65)) (fun _ h_ => h_.1))) (Kd.R_base ho0) hb); have n4_ := Aside0.mk (Kd.R_elder' (by (with_reducible repeat (first | apply Kd.R_alloc | apply Kd.R_drewN | apply Kd.R_drew)); exact (Kd.R_mono (Kd.R_far (p := ⟨gb610, 1, none⟩) (Kd.R_far (p := ⟨gb610, 0, none⟩) (Kd.R_types HO602.out BK610.out (by decide)) (fun _ hk => hk.2) (.int .i64 t605)) (fun _ hk => hk.2) (.slice Ao65 t606.length co65)) (fun _ h_ => h_.1))) (Kd.R_base ho0) hb); have n5_ := Aside0.mk (Kd.R_elder' (by (with_reducible repeat (first | apply Kd.R_alloc | apply Kd.R_drewN | apply Kd.R_drew)); exact (Kd.R_mono (Kd.R_far (p := ⟨gb610, 1, none⟩) (Kd.R_far (p := ⟨gb610, 0, none⟩) (Kd.R_types HO608.out BK610.out (by decide)) (fun _ hk => hk.2) (.int .i64 t605)) (fun _ hk => hk.2) (.slice Ao65 t606.length co65)) (fun _ h_ => h_.1))) (Kd.R_base ho0) hb); have n6_ := Aside0.mk (Kd.R_lower (Kd.R_new' (Kd.R_new' (Kd.R_new' (Kd.R_new' (Kd.R_new' (Kd.R_new' ho0 (Kd.R_lt (by (with_reducible repeat (first | apply Kd.R_alloc | apply Kd.R_drewN | apply Kd.R_drew)); exact (Kd.R_mono (Kd.R_far (p := ⟨gb610, 1, none⟩) (Kd.R_far (p := ⟨gb610, 0, none⟩) (Kd.R_types HO_5.out BK610.out (by decide)) (fun _ hk => hk.2) (.int .i64 t605)) (fun _ hk => hk.2) (.slice Ao65 t606.length co65)) (fun _ h_ => h_.1))))) (Kd.R_lt (by (with_reducible repeat (first | apply Kd.R_alloc | apply Kd.R_drewN | apply Kd.R_drew)); exact (Kd.R_mono (Kd.R_far (p := ⟨gb610, 1, none⟩) (Kd.R_far (p := ⟨gb610, 0, none⟩) (Kd.R_types HO_6.out BK610.out (by decide)) (fun _ hk => hk.2) (.int .i64 t605)) (fun _ hk => hk.2) (.slice Ao65 t606.length co65)) (fun _ h_ => h_.1))))) (Kd.R_lt (by (with_reducible repeat (first | apply Kd.R_alloc | apply Kd.R_drewN | apply Kd.R_drew)); exact (Kd.R_mono (Kd.R_far (p := ⟨gb610, 1, none⟩) (Kd.R_far (p := ⟨gb610, 0, none⟩) (Kd.R_types HO_22.out BK610.out (by decide)) (fun _ hk => hk.2) (.int .i64 t605)) (fun _ hk => hk.2) (.slice Ao65 t606.length co65)) (fun _ h_ => h_.1))))) (Kd.R_lt (by (with_reducible repeat (first | apply Kd.R_alloc | apply Kd.R_drewN | apply Kd.R_drew)); exact (Kd.R_mono (Kd.R_far (p := ⟨gb610, 1, none⟩) (Kd.R_far (p := ⟨gb610, 0, none⟩) (Kd.R_types HO_580001.out BK610.out (by decide)) (fun _ hk => hk.2) (.int .i64 t605)) (fun _ hk => hk.2) (.slice Ao65 t606.length co65)) (fun _ h_ => h_.1))))) (Kd.R_lt (by (with_reducible repeat (first | apply Kd.R_alloc | apply Kd.R_drewN | apply Kd.R_drew)); exact (Kd.R_mono (Kd.R_far (p := ⟨gb610, 1, none⟩) (Kd.R_far (p := ⟨gb610, 0, none⟩) (Kd.R_types HO602.out BK610.out (by decide)) (fun _ hk => hk.2) (.int .i64 t605)) (fun _ hk => hk.2) (.slice Ao65 t606.length co65)) (fun _ h_ => h_.1))))) (Kd.R_lt (by (with_reducible repeat (first | apply Kd.R_alloc | apply Kd.R_drewN | apply Kd.R_drew)); exact (Kd.R_mono (Kd.R_far (p := ⟨gb610, 1, none⟩) (Kd.R_far (p := ⟨gb610, 0, none⟩) (Kd.R_types HO608.out BK610.out (by decide)) (fun _ hk => hk.2) (.int .i64 t605)) (fun _ hk => hk.2) (.slice Ao65 t606.length co65)) (fun _ h_ => h_.1))))) (below_size (zB HB))); have n7_ := Aside0.mk (blk_below (g := gb579) (o := .cells #[.int .i64 t574, .slice Ao10 t575.length co10] 24 (0, 0)) (by (with_reducible repeat (first | refine blk_drewN ?_ _ | refine blk_drew ?_ | refine blk_alloc ?_ _)); refine blk_far ?_ NB579_610.out _; (with_reducible repeat (first | refine blk_drewN ?_ _ | refine blk_drew ?_ | refine blk_alloc ?_ _)); refine blk_far ?_ NB579_610.out _; (with_reducible repeat (first | refine blk_drewN ?_ _ | refine blk_drew ?_ | refine blk_alloc ?_ _)); exact BK579.out) hb); have n8_ := Aside0.mk (blk_below (g := gb604) (o := .cells #[.int .i64 t599, .slice Ao57 t600.length co57] 24 (0, 0)) (by (with_reducible repeat (first | refine blk_drewN ?_ _ | refine blk_drew ?_ | refine blk_alloc ?_ _)); refine blk_far ?_ NB604_610.out _; (with_reducible repeat (first | refine blk_drewN ?_ _ | refine blk_drew ?_ | refine blk_alloc ?_ _)); refine blk_far ?_ NB604_610.out _; (with_reducible repeat (first | refine blk_drewN ?_ _ | refine blk_drew ?_ | refine blk_alloc ?_ _)); exact BK604.out) hb); have n9_ := Aside0.mk (blk_below (g := gb610) (o := .cells #[.int .i64 t605, .slice Ao65 t606.length co65] 24 (0, 0)) (by (with_reducible repeat (first | refine blk_drewN ?_ _ | refine blk_drew ?_ | refine blk_alloc ?_ _)); refine blk_put (cs := #[.int .i64 t605, .slice none 0 0]) ?_ 1 _ rfl; (with_reducible repeat (first | refine blk_drewN ?_ _ | refine blk_drew ?_ | refine blk_alloc ?_ _)); refine blk_put (cs := #[.int .i64 0, .slice none 0 0]) ?_ 0 _ rfl; (with_reducible repeat (first | refine blk_drewN ?_ _ | refine blk_drew ?_ | refine blk_alloc ?_ _)); exact BK610.out) hb); have n10_ := Aside0.mk (below_step (zB HB) hb); clear HO_5; clear HO_6; clear HO_22; clear HO_580001; clear HO602; clear HO608; clear BK579; clear BK604; clear BK610; clear HB; have HO_5 := n0_; have HO_6 := n1_; have HO_22 := n2_; have HO_580001 := n3_; have HO602 := n4_; have HO608 := n5_; have HO614 := n6_; have BK579 := n7_; have BK604 := n8_; have BK610 := n9_; have HB := n10_; clear n0_ n1_ n2_ n3_ n4_ n5_ n6_ n7_ n8_ n9_ n10_; (try clear hb); (try clear hb2); (try clear hk); (try clear hi); (try clear ho0)) | ((with_reducible refine gate_dst (N := 13) rfl ?_); refine box_event ?hg (N := 13) ?hd (cs := #[.int .i64 0, .slice none 0 0]) (t := 24) ?hr ?_; (case hd => rfl); (case hg => rfl); (case hr => first | (go_simp; done) | (go_simp; rfl)); intro gb616 hg w68 hbox hb; have n0_ := Aside0.mk (Kd.R_below (zR HO_5) hb); have n1_ := Aside0.mk (Kd.R_below (zR HO_6) hb); have n2_ := Aside0.mk (Kd.R_below (zR HO_22) hb); have n3_ := Aside0.mk (Kd.R_below (zR HO_580001) hb); have n4_ := Aside0.mk (Kd.R_below (zR HO602) hb); have n5_ := Aside0.mk (Kd.R_below (zR HO608) hb); have n6_ := Aside0.mk (Kd.R_below (zR HO614) hb); have n7_ := Aside0.mk (blk_below (g := gb579) (o := .cells #[.int .i64 t574, .slice Ao10 t575.length co10] 24 (0, 0)) (zK BK579) hb); have n8_ := Aside0.mk (blk_below (g := gb604) (o := .cells #[.int .i64 t599, .slice Ao57 t600.length co57] 24 (0, 0)) (zK BK604) hb); have n9_ := Aside0.mk (blk_below (g := gb610) (o := .cells #[.int .i64 t605, .slice Ao65 t606.length co65] 24 (0, 0)) (zK BK610) hb); have n10_ := Aside0.mk (below_step (zB HB) hb); have n11_ := Aside0.mk (hbox); have n12_ := Aside0.mk ((by rw [hg]; exact (below_size (zB HB)) : w.heap.size ≤ gb616)); have n13_ := Aside0.mk ((by rw [hg]; exact (below_size (zB HB)) : w.heap.size ≤ gb616)); have n14_ := Aside0.mk ((by rw [hg]; exact Nat.ne_of_lt (blk_lt (g := gb579) (o := .cells #[.int .i64 t574, .slice Ao10 t575.length co10] 24 (0, 0)) (zK BK579)) : gb579 ≠ gb616)); have n15_ := Aside0.mk ((by rw [hg]; exact Nat.ne_of_gt (blk_lt (g := gb579) (o := .cells #[.int .i64 t574, .slice Ao10 t575.length co10] 24 (0, 0)) (zK BK579)) : gb616 ≠ gb579)); have n16_ := Aside0.mk ((by rw [hg]; exact Nat.ne_of_lt (blk_lt (g := gb604) (o := .cells #[.int .i64 t599, .slice Ao57 t600.length co57] 24 (0, 0)) (zK BK604)) : gb604 ≠ gb616)); have n17_ := Aside0.mk ((by rw [hg]; exact Nat.ne_of_gt (blk_lt (g := gb604) (o := .cells #[.int .i64 t599, .slice Ao57 t600.length co57] 24 (0, 0)) (zK BK604)) : gb616 ≠ gb604)); have n18_ := Aside0.mk ((by rw [hg]; exact Nat.ne_of_lt (blk_lt (g := gb610) (o := .cells #[.int .i64 t605, .slice Ao65 t606.length co65] 24 (0, 0)) (zK BK610)) : gb610 ≠ gb616)); have n19_ := Aside0.mk ((by rw [hg]; exact Nat.ne_of_gt (blk_lt (g := gb610) (o := .cells #[.int .i64 t605, .slice Ao65 t606.length co65] 24 (0, 0)) (zK BK610)) : gb616 ≠ gb610)); clear HO_5; clear HO_6; clear HO_22; clear HO_580001; clear HO602; clear HO608; clear HO614; clear BK579; clear BK604; clear BK610; clear HB; have HO_5 := n0_; have HO_6 := n1_; have HO_22 := n2_; have HO_580001 := n3_; have HO602 := n4_; have HO608 := n5_; have HO614 := n6_; have BK579 := n7_; have BK604 := n8_; have BK610 := n9_; have HB := n10_; have BK616 := n11_; have GW616 := n12_; have GE616 := n13_; have NB579_616 := n14_; have NB616_579 := n15_; have NB604_616 := n16_; have NB616_604 := n17_; have NB610_616 := n18_; have NB616_610 := n19_; clear n0_ n1_ n2_ n3_ n4_ n5_ n6_ n7_ n8_ n9_ n10_ n11_ n12_ n13_ n14_ n15_ n16_ n17_ n18_ n19_; clear hb hbox hg; have hnb69 := NB616_579.out; have hnc69 := NB579_616.out; have hnb70 := NB616_604.out; have hnc70 := NB604_616.out; have hnb71 := NB616_610.out; have hnc71 := NB610_616.out; have hcz72_0 : w68.cell? ⟨gb616, 0, none⟩ = some (.int .i64 0) := (blk_cell BK616.out 0).trans rfl; have hcz72_1 : w68.cell? ⟨gb616, 1, none⟩ = some (.slice none 0 0) := (blk_cell BK616.out 1).trans rfl; have hfz72_0 := blk_frozen BK616.out 0; have hfz72_1 := blk_frozen BK616.out 1; obtain ⟨Ao73, co73, eo73⟩ := Kd.R_slice HO614.out; subst eo73; have hcz74_0 : w68.cell? ⟨gb604, 0, none⟩ = some (.int .i64 t599) := (blk_cell BK604.out 0).trans rfl; have hcz74_1 : w68.cell? ⟨gb604, 1, none⟩ = some (.slice Ao57 t600.length co57) := (blk_cell BK604.out 1).trans rfl; have hfz74_0 := blk_frozen BK604.out 0; have hfz74_1 := blk_frozen BK604.out 1; have hcz75_0 : w68.cell? ⟨gb610, 0, none⟩ = some (.int .i64 t605) := (blk_cell BK610.out 0).trans rfl; have hcz75_1 : w68.cell? ⟨gb610, 1, none⟩ = some (.slice Ao65 t606.length co65) := (blk_cell BK610.out 1).trans rfl; have hfz75_0 := blk_frozen BK610.out 0; have hfz75_1 := blk_frozen BK610.out 1) | (go_at_call 22; (with_reducible refine (deliberationnet_Same.calls k1 t599 _ _ t600 t605 _ _ t606 true _ ?side1 ?side2 ?side3 ?side4 A46.out).mono ?_); (case side1 => refine (Kd.R_reads' (e := 42) (base := w.heap.size) (ok := fun k_ => ((((((True ∧ some k_ ≠ (.slice Ao52 x5_1.length co52 : Value).ownBlock) ∧ some k_ ≠ (.slice Ao59 x6_1.length co59 : Value).ownBlock) ∧ some k_ ≠ (.slice Ao12 t580.length co12 : Value).ownBlock) ∧ some k_ ≠ (.slice Ao10 t575.length co10 : Value).ownBlock) ∧ some k_ ≠ (.slice Ao65 t606.length co65 : Value).ownBlock) ∧ some k_ ≠ (.slice Ao73 t612.length co73 : Value).ownBlock)) (n := t600.length) (c := co57) ?_).2.2; exact (by (with_reducible repeat (first | apply Kd.R_alloc | apply Kd.R_drewN | apply Kd.R_drew)); exact (Kd.R_mono (Kd.R_far (p := ⟨gb616, 1, none⟩) (Kd.R_far (p := ⟨gb616, 0, none⟩) (Kd.R_types HO602.out BK616.out (by decide)) (fun _ hk => hk.2) (.int .i64 t611)) (fun _ hk => hk.2) (.slice Ao73 t612.length co73)) (fun _ h_ => h_.1)))); (case side2 => exact (Kd.R_reads' HO602.out).2.1); (case side3 => refine (Kd.R_reads' (e := 42) (base := w.heap.size) (ok := fun k_ => ((((((True ∧ some k_ ≠ (.slice Ao52 x5_1.length co52 : Value).ownBlock) ∧ some k_ ≠ (.slice Ao59 x6_1.length co59 : Value).ownBlock) ∧ some k_ ≠ (.slice Ao12 t580.length co12 : Value).ownBlock) ∧ some k_ ≠ (.slice Ao10 t575.length co10 : Value).ownBlock) ∧ some k_ ≠ (.slice Ao57 t600.length co57 : Value).ownBlock) ∧ some k_ ≠ (.slice Ao73 t612.length co73 : Value).ownBlock)) (n := t606.length) (c := co65) ?_).2.2; exact (by (with_reducible repeat (first | apply Kd.R_alloc | apply Kd.R_drewN | apply Kd.R_drew)); exact (Kd.R_mono (Kd.R_far (p := ⟨gb616, 1, none⟩) (Kd.R_far (p := ⟨gb616, 0, none⟩) (Kd.R_types HO608.out BK616.out (by decide)) (fun _ hk => hk.2) (.int .i64 t611)) (fun _ hk => hk.2) (.slice Ao73 t612.length co73)) (fun _ h_ => h_.1)))); (case side4 => exact (Kd.R_reads' HO608.out).2.1); rintro e w76 ⟨rfl, hb⟩; have n0_ := Aside0.mk (Kd.R_below (by (with_reducible repeat (first | apply Kd.R_alloc | apply Kd.R_drewN | apply Kd.R_drew)); exact (Kd.R_mono (Kd.R_far (p := ⟨gb616, 1, none⟩) (Kd.R_far (p := ⟨gb616, 0, none⟩) (Kd.R_types HO_5.out BK616.out (by decide)) (fun _ hk => hk.2) (.int .i64 t611)) (fun _ hk => hk.2) (.slice Ao73 t612.length co73)) (fun _ h_ => h_.1))) hb); have n1_ := Aside0.mk (Kd.R_below (by (with_reducible repeat (first | apply Kd.R_alloc | apply Kd.R_drewN | apply Kd.R_drew)); exact (Kd.R_mono (Kd.R_far (p := ⟨gb616, 1, none⟩) (Kd.R_far (p := ⟨gb616, 0, none⟩) (Kd.R_types HO_6.out BK616.out (by decide)) (fun _ hk => hk.2) (.int .i64 t611)) (fun _ hk => hk.2) (.slice Ao73 t612.length co73)) (fun _ h_ => h_.1))) hb); have n2_ := Aside0.mk (Kd.R_below (by (with_reducible repeat (first | apply Kd.R_alloc | apply Kd.R_drewN | apply Kd.R_drew)); exact (Kd.R_mono (Kd.R_far (p := ⟨gb616, 1, none⟩) (Kd.R_far (p := ⟨gb616, 0, none⟩) (Kd.R_types HO_22.out BK616.out (by decide)) (fun _ hk => hk.2) (.int .i64 t611)) (fun _ hk => hk.2) (.slice Ao73 t612.length co73)) (fun _ h_ => h_.1))) hb); have n3_ := Aside0.mk (Kd.R_below (by (with_reducible repeat (first | apply Kd.R_alloc | apply Kd.R_drewN | apply Kd.R_drew)); exact (Kd.R_mono (Kd.R_far (p := ⟨gb616, 1, none⟩) (Kd.R_far (p := ⟨gb616, 0, none⟩) (Kd.R_types HO_580001.out BK616.out (by decide)) (fun _ hk => hk.2) (.int .i64 t611)) (fun _ hk => hk.2) (.slice Ao73 t612.length co73)) (fun _ h_ => h_.1))) hb); have n4_ := Aside0.mk (Kd.R_below (by (with_reducible repeat (first | apply Kd.R_alloc | apply Kd.R_drewN | apply Kd.R_drew)); exact (Kd.R_mono (Kd.R_far (p := ⟨gb616, 1, none⟩) (Kd.R_far (p := ⟨gb616, 0, none⟩) (Kd.R_types HO602.out BK616.out (by decide)) (fun _ hk => hk.2) (.int .i64 t611)) (fun _ hk => hk.2) (.slice Ao73 t612.length co73)) (fun _ h_ => h_.1))) hb); have n5_ := Aside0.mk (Kd.R_below (by (with_reducible repeat (first | apply Kd.R_alloc | apply Kd.R_drewN | apply Kd.R_drew)); exact (Kd.R_mono (Kd.R_far (p := ⟨gb616, 1, none⟩) (Kd.R_far (p := ⟨gb616, 0, none⟩) (Kd.R_types HO608.out BK616.out (by decide)) (fun _ hk => hk.2) (.int .i64 t611)) (fun _ hk => hk.2) (.slice Ao73 t612.length co73)) (fun _ h_ => h_.1))) hb); have n6_ := Aside0.mk (Kd.R_below (by (with_reducible repeat (first | apply Kd.R_alloc | apply Kd.R_drewN | apply Kd.R_drew)); exact (Kd.R_mono (Kd.R_far (p := ⟨gb616, 1, none⟩) (Kd.R_far (p := ⟨gb616, 0, none⟩) (Kd.R_types HO614.out BK616.out (by decide)) (fun _ hk => hk.2) (.int .i64 t611)) (fun _ hk => hk.2) (.slice Ao73 t612.length co73)) (fun _ h_ => h_.1))) hb); have n7_ := Aside0.mk (blk_below (g := gb579) (o := .cells #[.int .i64 t574, .slice Ao10 t575.length co10] 24 (0, 0)) (by (with_reducible repeat (first | refine blk_drewN ?_ _ | refine blk_drew ?_ | refine blk_alloc ?_ _)); refine blk_far ?_ NB579_616.out _; (with_reducible repeat (first | refine blk_drewN ?_ _ | refine blk_drew ?_ | refine blk_alloc ?_ _)); refine blk_far ?_ NB579_616.out _; (with_reducible repeat (first | refine blk_drewN ?_ _ | refine blk_drew ?_ | refine blk_alloc ?_ _)); exact BK579.out) hb); have n8_ := Aside0.mk (blk_below (g := gb604) (o := .cells #[.int .i64 t599, .slice Ao57 t600.length co57] 24 (0, 0)) (by (with_reducible repeat (first | refine blk_drewN ?_ _ | refine blk_drew ?_ | refine blk_alloc ?_ _)); refine blk_far ?_ NB604_616.out _; (with_reducible repeat (first | refine blk_drewN ?_ _ | refine blk_drew ?_ | refine blk_alloc ?_ _)); refine blk_far ?_ NB604_616.out _; (with_reducible repeat (first | refine blk_drewN ?_ _ | refine blk_drew ?_ | refine blk_alloc ?_ _)); exact BK604.out) hb); have n9_ := Aside0.mk (blk_below (g := gb610) (o := .cells #[.int .i64 t605, .slice Ao65 t606.length co65] 24 (0, 0)) (by (with_reducible repeat (first | refine blk_drewN ?_ _ | refine blk_drew ?_ | refine blk_alloc ?_ _)); refine blk_far ?_ NB610_616.out _; (with_reducible repeat (first | refine blk_drewN ?_ _ | refine blk_drew ?_ | refine blk_alloc ?_ _)); refine blk_far ?_ NB610_616.out _; (with_reducible repeat (first | refine blk_drewN ?_ _ | refine blk_drew ?_ | refine blk_alloc ?_ _)); exact BK610.out) hb); have n10_ := Aside0.mk (blk_below (g := gb616) (o := .cells #[.int .i64 t611, .slice Ao73 t612.length co73] 24 (0, 0)) (by (with_reducible repeat (first | refine blk_drewN ?_ _ | refine blk_drew ?_ | refine blk_alloc ?_ _)); refine blk_put (cs := #[.int .i64 t611, .slice none 0 0]) ?_ 1 _ rfl; (with_reducible repeat (first | refine blk_drewN ?_ _ | refine blk_drew ?_ | refine blk_alloc ?_ _)); refine blk_put (cs := #[.int .i64 0, .slice none 0 0]) ?_ 0 _ rfl; (with_reducible repeat (first | refine blk_drewN ?_ _ | refine blk_drew ?_ | refine blk_alloc ?_ _)); exact BK616.out) hb); have n11_ := Aside0.mk (below_step (zB HB) hb); clear HO_5; clear HO_6; clear HO_22; clear HO_580001; clear HO602; clear HO608; clear HO614; clear BK579; clear BK604; clear BK610; clear BK616; clear HB; have HO_5 := n0_; have HO_6 := n1_; have HO_22 := n2_; have HO_580001 := n3_; have HO602 := n4_; have HO608 := n5_; have HO614 := n6_; have BK579 := n7_; have BK604 := n8_; have BK610 := n9_; have BK616 := n10_; have HB := n11_; clear n0_ n1_ n2_ n3_ n4_ n5_ n6_ n7_ n8_ n9_ n10_ n11_; (try clear hb); (try clear hb2); (try clear hk); (try clear hi); have hcz77_0 : w76.cell? ⟨gb616, 0, none⟩ = some (.int .i64 t611) := (blk_cell BK616.out 0).trans rfl; have hcz77_1 : w76.cell? ⟨gb616, 1, none⟩ = some (.slice Ao73 t612.length co73) := (blk_cell BK616.out 1).trans rfl; have hfz77_0 := blk_frozen BK616.out 0; have hfz77_1 := blk_frozen BK616.out 1; have hcz78_0 : w76.cell? ⟨gb579, 0, none⟩ = some (.int .i64 t574) := (blk_cell BK579.out 0).trans rfl; have hcz78_1 : w76.cell? ⟨gb579, 1, none⟩ = some (.slice Ao10 t575.length co10) := (blk_cell BK579.out 1).trans rfl; have hfz78_0 := blk_frozen BK579.out 0; have hfz78_1 := blk_frozen BK579.out 1) | (go_at_call 22; (with_reducible refine (deliberationnet_Same.calls k1 t611 _ _ t612 t574 _ _ t575 true _ ?side1 ?side2 ?side3 ?side4 A48.out).mono ?_); (case side1 => repeat (first | exact (Kd.R_reads' HO614.out).2.2 | (with_reducible refine Kd.C_alloc ?_ _) | (with_reducible refine Kd.C_drewN ?_ _) | (with_reducible refine Kd.C_drew ?_))); (case side2 => exact (Kd.R_reads' HO614.out).2.1); (case side3 => repeat (first | exact (Kd.R_reads' HO_580001.out).2.2 | (with_reducible refine Kd.C_alloc ?_ _) | (with_reducible refine Kd.C_drewN ?_ _) | (with_reducible refine Kd.C_drew ?_))); (case side4 => exact (Kd.R_reads' HO_580001.out).2.1); rintro e w79 ⟨rfl, hb⟩; have n0_ := Aside0.mk (Kd.R_below (zR HO_5) hb); have n1_ := Aside0.mk (Kd.R_below (zR HO_6) hb); have n2_ := Aside0.mk (Kd.R_below (zR HO_22) hb); have n3_ := Aside0.mk (Kd.R_below (zR HO_580001) hb); have n4_ := Aside0.mk (Kd.R_below (zR HO602) hb); have n5_ := Aside0.mk (Kd.R_below (zR HO608) hb); have n6_ := Aside0.mk (Kd.R_below (zR HO614) hb); have n7_ := Aside0.mk (blk_below (g := gb579) (o := .cells #[.int .i64 t574, .slice Ao10 t575.length co10] 24 (0, 0)) (zK BK579) hb); have n8_ := Aside0.mk (blk_below (g := gb604) (o := .cells #[.int .i64 t599, .slice Ao57 t600.length co57] 24 (0, 0)) (zK BK604) hb); have n9_ := Aside0.mk (blk_below (g := gb610) (o := .cells #[.int .i64 t605, .slice Ao65 t606.length co65] 24 (0, 0)) (zK BK610) hb); have n10_ := Aside0.mk (blk_below (g := gb616) (o := .cells #[.int .i64 t611, .slice Ao73 t612.length co73] 24 (0, 0)) (zK BK616) hb); have n11_ := Aside0.mk (below_step (zB HB) hb); clear HO_5; clear HO_6; clear HO_22; clear HO_580001; clear HO602; clear HO608; clear HO614; clear BK579; clear BK604; clear BK610; clear BK616; clear HB; have HO_5 := n0_; have HO_6 := n1_; have HO_22 := n2_; have HO_580001 := n3_; have HO602 := n4_; have HO608 := n5_; have HO614 := n6_; have BK579 := n7_; have BK604 := n8_; have BK610 := n9_; have BK616 := n10_; have HB := n11_; clear n0_ n1_ n2_ n3_ n4_ n5_ n6_ n7_ n8_ n9_ n10_ n11_; (try clear hb); (try clear hb2); (try clear hk); (try clear hi)) | (go_at_call 10; (with_reducible refine (deliberationlaw21_awake.calls k1  _ ?side1 A50.out).mono ?_); (case side1 => exact TabT.now HTab.out (zB HB)); rintro e w80 ⟨rfl, hb⟩; have n0_ := Aside0.mk (Kd.R_below (zR HO_5) hb); have n1_ := Aside0.mk (Kd.R_below (zR HO_6) hb); have n2_ := Aside0.mk (Kd.R_below (zR HO_22) hb); have n3_ := Aside0.mk (Kd.R_below (zR HO_580001) hb); have n4_ := Aside0.mk (Kd.R_below (zR HO602) hb); have n5_ := Aside0.mk (Kd.R_below (zR HO608) hb); have n6_ := Aside0.mk (Kd.R_below (zR HO614) hb); have n7_ := Aside0.mk (blk_below (g := gb579) (o := .cells #[.int .i64 t574, .slice Ao10 t575.length co10] 24 (0, 0)) (zK BK579) hb); have n8_ := Aside0.mk (blk_below (g := gb604) (o := .cells #[.int .i64 t599, .slice Ao57 t600.length co57] 24 (0, 0)) (zK BK604) hb); have n9_ := Aside0.mk (blk_below (g := gb610) (o := .cells #[.int .i64 t605, .slice Ao65 t606.length co65] 24 (0, 0)) (zK BK610) hb); have n10_ := Aside0.mk (blk_below (g := gb616) (o := .cells #[.int .i64 t611, .slice Ao73 t612.length co73] 24 (0, 0)) (zK BK616) hb); have n11_ := Aside0.mk (below_step (zB HB) hb); clear HO_5; clear HO_6; clear HO_22; clear HO_580001; clear HO602; clear HO608; clear HO614; clear BK579; clear BK604; clear BK610; clear BK616; clear HB; have HO_5 := n0_; have HO_6 := n1_; have HO_22 := n2_; have HO_580001 := n3_; have HO602 := n4_; have HO608 := n5_; have HO614 := n6_; have BK579 := n7_; have BK604 := n8_; have BK610 := n9_; have BK616 := n10_; have HB := n11_; clear n0_ n1_ n2_ n3_ n4_ n5_ n6_ n7_ n8_ n9_ n10_ n11_; (try clear hb); (try clear hb2); (try clear hk); (try clear hi)))
               go_ret
               exact ⟨by first | rfl | (simp [errW_none, errW_some] <;> rfl) | (simp [*, errW_none, errW_some] <;> rfl), zB HB⟩
             · replace c49 := Bool.eq_false_iff.mpr c49
               subst c49
               have H1 : (some false) = some true := by rw [if_neg (show ¬ (false = true) by decide)] at H; exact H
               clear H
               have H := H1
               clear H1
               exact absurd H (by simp_all)
           · replace c47 := Bool.eq_false_iff.mpr c47
             subst c47
             have H1 : (some false) = some true := by rw [if_neg (show ¬ (false = true) by decide)] at H; exact H
             clear H
             have H := H1
             clear H1
             exact absurd H (by simp_all)
         · rw [if_neg c45] at H
           have c45b0 : (t615 == 0) = false := beq_eq_false_iff_ne.mpr c45
           have c45b1 : (t615 != 0) = true := bne_iff_ne.mpr c45
           exact absurd H (by simp_all)
       · rw [if_neg c44] at H
         have c44b0 : (t609 == 0) = false := beq_eq_false_iff_ne.mpr c44
         have c44b1 : (t609 != 0) = true := bne_iff_ne.mpr c44
         exact absurd H (by simp_all)
     · rw [if_neg c43] at H
       have c43b0 : (t603 == 0) = false := beq_eq_false_iff_ne.mpr c43
       have c43b1 : (t603 != 0) = true := bne_iff_ne.mpr c43
       exact absurd H (by simp_all)
/-- THE ONE PURE STATEMENT of deliberationlaw21_EnforceUndone: yours. -/
def deliberationlaw21_EnforceUndone.Pure : Prop := ∀ (l0 : List Int), l0.length ≤ maxLen → l0.length * 8 ≤ 140737488351232 → (∀ x ∈ l0, (Lit.int .i64 x).wf = true) → ∃ k, deliberationlaw21_EnforceUndone.f k l0 = some true
theorem deliberationlaw21_EnforceUndone.walk (P : deliberationlaw21_EnforceUndone.Pure) (a0 : Option Addr) (len0 cap0 : Nat) (z0 : List Int) (w : World) (hT : TabT w) (w0 : (a0 = none ∧ len0 = 0 ∧ cap0 = 0 ∧ z0 = []) ∨ ∃ x, a0 = some x ∧ len0 ≤ cap0 ∧ cap0 ≤ maxLen ∧ z0.length = cap0 ∧ (∀ i, i < z0.length → w.cell? (x.add i) = some (.int .i64 (z0.getD i 0))) ∧ ∀ n ∈ z0, (Lit.int .i64 n).wf = true) (y0 : len0 * 8 ≤ 140737488351232) :
 Calls Tryd.prog 4 #[.slice a0 len0 cap0] w fun e w' => e = .returned (.bool true) ∧ Below w.heap.size w w' := by
 obtain ⟨l0, rfl, hr0, hm0, hw0, hc0⟩ := ReadsInt.ofRowC w0
 obtain ⟨k, h⟩ := P l0 hm0 y0 hw0
 refine (deliberationlaw21_EnforceUndone.calls k _ _ l0 w (Kd.C_of_reads (d := (0 : Int)) (h1 := fun _ => rfl) hr0) hc0 hT h).mono ?_
 rintro e w' ⟨rfl, hd⟩
 exact ⟨rfl, hd⟩
end Go.Proofs.YtjmdlmogdbhdhaaDoor.P
/- Plain facts about what the printed functions compute: rounds that are enough ('Ev'), the reader of numbers, graphs that are valid, and toggling as a symmetric difference. -/
namespace Go.Proofs.YtjmdlmogdbhdhaaDoor.P
open Go.RowKit Go.Proofs.YtjmdlmogdbhdhaaDoorW.PrintWords Go.Proofs.YtjmdlmogdbhdhaaDoorW.PrintLast Go.Proofs.YtjmdlmogdbhdhaaDoorW.PrintMore
/-- With rounds enough it tells a. -/
def Ev {α : Type} (f : Nat → Option α) (a : α) : Prop := ∃ k, ∀ j, k ≤ j → f j = some a
theorem Ev.const {α : Type} (a : α) : Ev (fun _ => some a) a := ⟨0, fun _ _ => rfl⟩
theorem Ev.succ {α : Type} {f : Nat → Option α} {a : α} (h : Ev (fun k => f (k + 1)) a) : Ev f a := by
  obtain ⟨k, hk⟩ := h
  refine ⟨k + 1, fun j hj => ?_⟩
  obtain ⟨i, rfl⟩ : ∃ i, j = i + 1 := ⟨j - 1, by omega⟩
  exact hk i (by omega)
theorem Ev.bind {α β : Type} {f : Nat → Option α} {g : Nat → α → Option β} {a : α} {b : β} (h1 : Ev f a) (h2 : Ev (fun k => g k a) b) : Ev (fun k => (f k).bind (g k)) b := by
  obtain ⟨k1, h1⟩ := h1
  obtain ⟨k2, h2⟩ := h2
  refine ⟨max k1 k2, fun j hj => ?_⟩
  show (f j).bind (g j) = some b
  rw [h1 j (by omega)]
  exact h2 j (by omega)
theorem Ev.pos {α : Type} {c : Prop} [Decidable c] {f g : Nat → Option α} {a : α} (h : c) (hf : Ev f a) : Ev (fun k => if c then f k else g k) a := by
  simp only [if_pos h]
  exact hf
theorem Ev.neg {α : Type} {c : Prop} [Decidable c] {f g : Nat → Option α} {a : α} (h : ¬ c) (hg : Ev g a) : Ev (fun k => if c then f k else g k) a := by
  simp only [if_neg h]
  exact hg
theorem Ev.now {α : Type} {f : Nat → Option α} {a : α} (h : Ev f a) : ∃ k, f k = some a := by
  obtain ⟨k, hk⟩ := h
  exact ⟨k, hk k (Nat.le_refl _)⟩
theorem Ev.of_mono {α : Type} {f : Nat → Option α} {a : α} (hm : ∀ k, LeO (f k) (f (k + 1))) {k : Nat} (h : f k = some a) : Ev f a := by
  refine ⟨k, fun j hj => ?_⟩
  induction hj with
  | refl => exact h
  | step _ ih => exact hm _ _ ih
instance : DecidableEq S42 := fun a b => if h : a.f0 = b.f0 ∧ a.f1 = b.f1 then isTrue (by cases a; cases b; simp_all) else isFalse (fun e => h (by rw [e]; exact ⟨rfl, rfl⟩))
instance : Inhabited S42 := ⟨z42⟩
theorem wrap_id (x : Int) (h0 : -9223372036854775808 ≤ x) (h1 : x ≤ 9223372036854775807) : wrap64 x = x := by unfold wrap64; omega
theorem rdT_get (L : List S42) (i : Nat) (h : i < L.length) : rd_T42 L (i : Int) = L[i] := by simp [rd_T42, h]
theorem rd_get (L : List Int) (i : Nat) (h : i < L.length) : rd L (i : Int) = L[i] := by simp [rd, h]
/-! ### the reader -/
structure SOk (l : List Int) (p : Int) : Prop where
  h0 : 0 ≤ p
  h1 : p ≤ l.length
  h2 : l.length ≤ 2000
  h3 : ∀ x ∈ l, -9223372036854775808 ≤ x ∧ x ≤ 9223372036854775807
theorem new_ok (l : List Int) (hl : ∀ x ∈ l, (Lit.int .i64 x).wf = true) : ∃ l2, deliberationkeep_New.f l = some (l2, 0) ∧ SOk l2 0 := by
  refine ⟨l.take (mn (l.length : Int) 2000).toNat, ?_, ?_⟩
  · unfold deliberationkeep_New.f mn
    split
    · rw [if_pos (by omega), if_pos (by omega)]
    · rw [if_pos (by omega), if_pos (by omega)]
  · refine ⟨Int.le_refl _, by omega, ?_, ?_⟩
    · rw [List.length_take]
      unfold mn
      split <;> omega
    · intro x hx
      have := hl x (List.mem_of_mem_take hx)
      simp [Lit.wf, IntKind.min, IntKind.max, IntKind.signed, IntKind.bits] at this
      omega
theorem raw_ok {l : List Int} {p : Int} (h : SOk l p) : ∃ v q, deliberationkeep_Src_Raw.f l p = some (v, q) ∧ SOk l q ∧ -9223372036854775808 ≤ v ∧ v ≤ 9223372036854775807 := by
  obtain ⟨h0, h1, h2, h3⟩ := h
  unfold deliberationkeep_Src_Raw.f
  by_cases hp : p ≥ (l.length : Int)
  · rw [if_pos hp]
    exact ⟨0, p, rfl, ⟨h0, h1, h2, h3⟩, by omega, by omega⟩
  · rw [if_neg hp, wrap_id (p + 1) (by omega) (by omega), wrap_id (p + 1 - 1) (by omega) (by omega), if_pos (by omega), if_pos (by omega)]
    obtain ⟨i, rfl⟩ : ∃ i : Nat, p = i := ⟨p.toNat, by omega⟩
    have hi : i < l.length := by omega
    have := h3 _ (List.getElem_mem hi)
    refine ⟨_, _, rfl, ⟨by omega, by omega, h2, h3⟩, ?_⟩
    rw [show (i : Int) + 1 - 1 = (i : Int) by omega, rd_get l i hi]
    exact this
theorem mod_ok (v n : Int) (h0 : -9223372036854775808 ≤ v) (h1 : v ≤ 9223372036854775807) (hn : 1 ≤ n) (hn2 : n ≤ 1000000) : ∃ r, deliberationkeep_Mod.f v n = some r ∧ 0 ≤ r ∧ r < n := by
  unfold deliberationkeep_Mod.f
  rw [if_neg (by omega), if_neg (by omega)]
  have hb1 : Int.tmod v n < n := Int.tmod_lt_of_pos v (by omega)
  have hb2 : -n < Int.tmod v n := by
    have := Int.tmod_lt_of_pos (-v) (show 0 < n by omega)
    rw [Int.neg_tmod] at this
    omega
  split
  · rw [wrap_id _ (by omega) (by omega)]
    exact ⟨_, rfl, by omega, by omega⟩
  · exact ⟨_, rfl, by omega, hb1⟩
theorem n_ok {l : List Int} {p : Int} (h : SOk l p) (n : Int) (hn : 1 ≤ n) (hn2 : n ≤ 1000000) : ∃ v q, deliberationkeep_Src_N.f l p n = some (v, q) ∧ SOk l q ∧ 0 ≤ v ∧ v < n := by
  obtain ⟨v, q, e1, hq, b1, b2⟩ := raw_ok h
  obtain ⟨r, e2, b3, b4⟩ := mod_ok v n b1 b2 hn hn2
  refine ⟨r, q, ?_, hq, b3, b4⟩
  unfold deliberationkeep_Src_N.f
  rw [e1]
  show (deliberationkeep_Mod.f v n).bind _ = _
  rw [e2]
  rfl
theorem range_ok {l : List Int} {p : Int} (h : SOk l p) (a b : Int) (h0 : 0 ≤ a) (hab : a ≤ b) (hb : b ≤ 1000) : ∃ v q, deliberationkeep_Src_Range.f l p a b = some (v, q) ∧ SOk l q ∧ a ≤ v ∧ v ≤ b := by
  obtain ⟨v, q, e1, hq, b1, b2⟩ := n_ok h (b - a + 1) (by omega) (by omega)
  refine ⟨a + v, q, ?_, hq, by omega, by omega⟩
  unfold deliberationkeep_Src_Range.f
  rw [wrap_id (b - a) (by omega) (by omega), wrap_id (b - a + 1) (by omega) (by omega), e1]
  show some (wrap64 (a + v), q) = _
  rw [wrap_id (a + v) (by omega) (by omega)]
/-! ### valid graphs -/
def ltS (p q : S42) : Prop := p.f0 < q.f0 ∨ (p.f0 = q.f0 ∧ p.f1 < q.f1)
def InR (N : Int) (l : List S42) : Prop := ∀ p ∈ l, 0 ≤ p.f0 ∧ p.f0 < N ∧ 0 ≤ p.f1 ∧ p.f1 < N
structure GoodG (N : Int) (L : List S42) : Prop where
  n0 : 0 ≤ N
  n1 : N ≤ 40
  inr : InR N L
  ord : L.Pairwise ltS
theorem ltS_ne {p q : S42} (h : ltS p q) : p ≠ q := by
  rintro rfl
  unfold ltS at h
  omega
theorem ord_nodup {L : List S42} (h : L.Pairwise ltS) : L.Nodup := List.nodup_iff_pairwise_ne.2 (h.imp (fun h => ltS_ne h))
theorem ord_unique {L M : List S42} (h1 : L.Pairwise ltS) (h2 : M.Pairwise ltS) (h : ∀ p, p ∈ L ↔ p ∈ M) : L = M :=
  List.Perm.eq_of_pairwise (le := ltS) (fun a b _ _ h1 h2 => by cases a; cases b; simp only [ltS] at h1 h2; omega) h1 h2 ((List.perm_ext_iff_of_nodup (ord_nodup h1) (ord_nodup h2)).2 h)
theorem ints_len : ∀ (l : List Int) (a b : Int), a ≤ b → l.Pairwise (· < ·) → (∀ x ∈ l, a ≤ x ∧ x < b) → (l.length : Int) ≤ b - a
  | [], a, b, hab, _, _ => by simp; omega
  | x :: r, a, b, hab, hp, hb => by
    rw [List.pairwise_cons] at hp
    have hx := hb x (by simp)
    have := ints_len r (x + 1) b (by omega) hp.2 (fun y hy => ⟨by have := hp.1 y hy; omega, (hb y (by simp [hy])).2⟩)
    simp
    omega
theorem codes_lt {N : Int} (hN : N ≤ 40) {p q : S42} (hp : 0 ≤ p.f0 ∧ p.f0 < N ∧ 0 ≤ p.f1 ∧ p.f1 < N) (hq : 0 ≤ q.f0 ∧ q.f0 < N ∧ 0 ≤ q.f1 ∧ q.f1 < N) (h : ltS p q) : p.f0 * 40 + p.f1 < q.f0 * 40 + q.f1 := by
  unfold ltS at h
  omega
theorem good_len {N : Int} {L : List S42} (h : GoodG N L) : L.length ≤ 1600 := by
  have h1 : (L.map fun p => p.f0 * 40 + p.f1).Pairwise (· < ·) := by
    rw [List.pairwise_map]
    exact List.Pairwise.imp_of_mem (fun hp hq hl => codes_lt h.n1 (h.inr _ hp) (h.inr _ hq) hl) h.ord
  have h2 := ints_len _ 0 1600 (by omega) h1 (by
    intro x hx
    obtain ⟨p, hp, rfl⟩ := List.mem_map.1 hx
    have := h.inr p hp
    have := h.n1
    omega)
  rw [List.length_map] at h2
  omega
def cmpV (a b : Int) : Int := if a < b then -1 else if a > b then 1 else 0
theorem cmp_f (a b : Int) : cmp_Compare_int.f a b = some (cmpV a b) := by
  unfold cmp_Compare_int.f cmp_isNaN_int.f cmpV
  simp
  split
  · rfl
  · split <;> rfl
theorem or_ev (a b : Int) : Ev (fun k => cmp_Or_int.f k [a, b]) (if a = 0 then b else a) := by
  unfold cmp_Or_int.f
  refine Ev.succ ?_
  simp only [cmp_Or_int.l0]
  rw [show (([a, b] : List Int).length : Int) = 2 from rfl]
  simp only [show ((0 : Int) < 2) = True from by simp, if_true, Int.le_refl, show rd [a, b] 0 = a from rfl]
  by_cases ha : a = 0
  · simp only [ha, if_true]
    rw [wrap_id (0 + 1) (by omega) (by omega)]
    refine Ev.succ ?_
    simp only [cmp_Or_int.l0]
    simp only [show ((0 : Int) + 1 < 2) = True from by simp, show ((0 : Int) ≤ 0 + 1) = True from by simp, if_true, show ([0, b] : List Int).length = 2 from rfl, show ((0 : Int) + 1 < ((2 : Nat) : Int)) = True from by simp, show rd [0, b] (0 + 1) = b from rfl]
    by_cases hb : b = 0
    · simp only [hb, if_true]
      rw [wrap_id (0 + 1 + 1) (by omega) (by omega)]
      refine Ev.succ ?_
      simp only [cmp_Or_int.l0]
      exact Ev.const _
    · simp only [hb, if_false]
      exact Ev.const _
  · simp only [ha, if_false]
    exact Ev.const _
theorem gcmp_ev (p q : S42) : Ev (fun k => graph_compare.f k p.f0 p.f1 q.f0 q.f1) (if cmpV p.f0 q.f0 = 0 then cmpV p.f1 q.f1 else cmpV p.f0 q.f0) := by
  simp only [graph_compare.f, cmp_f, Option.bind_some]
  exact Ev.bind (or_ev _ _) (Ev.const _)
theorem gcmp_lt {p q : S42} (h : ltS p q) : (if cmpV p.f0 q.f0 = 0 then cmpV p.f1 q.f1 else cmpV p.f0 q.f0) = -1 := by
  unfold ltS at h
  unfold cmpV
  rcases h with h | ⟨h1, h2⟩
  · simp [h]
  · simp [h1, h2]
theorem valid_l0 {N : Int} {L : List S42} (h : GoodG N L) : ∀ (n i : Nat), n + i = L.length → Ev (fun k => graph_Validate.l0 k L (L.length : Int) (i : Int) N L) 0
  | 0, i, hi => by
    refine Ev.succ ?_
    simp only [graph_Validate.l0]
    exact Ev.neg (by omega) (Ev.const _)
  | n + 1, i, hi => by
    have hl := good_len h
    have hlt : i < L.length := by omega
    have ih := valid_l0 h n (i + 1) (by omega)
    have hw : wrap64 ((i : Int) + 1) = ((i + 1 : Nat) : Int) := by rw [wrap_id _ (by omega) (by omega)]; rfl
    have hr := h.inr _ (List.getElem_mem hlt)
    refine Ev.succ ?_
    simp only [graph_Validate.l0, rdT_get L i hlt]
    refine Ev.pos (by omega) (Ev.pos (by omega) (Ev.pos (by omega) (Ev.neg (by unfold mn; split <;> omega) ?_)))
    rw [decide_eq_false (by unfold mx; split <;> omega)]
    refine Ev.succ ?_
    simp only [graph_Validate.j2, hw]
    refine Ev.neg (by simp) ?_
    cases i with
    | zero => exact Ev.neg (by omega) ih
    | succ i =>
      have hi' : i < L.length := by omega
      have hw2 : wrap64 (((i + 1 : Nat) : Int) - 1) = (i : Int) := by rw [wrap_id _ (by omega) (by omega)]; omega
      have ho : ltS L[i] L[i + 1] := List.pairwise_iff_getElem.1 h.ord i (i + 1) hi' hlt (by omega)
      simp only [hw2, rdT_get L i hi']
      refine Ev.pos (by omega) (Ev.pos (by omega) (Ev.pos (by omega) (Ev.bind (gcmp_ev _ _) ?_)))
      rw [gcmp_lt ho]
      exact Ev.neg (by omega) ih
theorem valid_ev {N : Int} {L : List S42} (h : GoodG N L) : Ev (fun k => graph_Validate.f k N L) 0 := by
  have h0 := h.n0
  have h1 := h.n1
  simp only [graph_Validate.f]
  refine Ev.neg (by omega) ?_
  rw [decide_eq_false (by omega)]
  refine Ev.succ ?_
  simp only [graph_Validate.j0]
  exact Ev.neg (by simp) (valid_l0 h L.length 0 (by omega))
end Go.Proofs.YtjmdlmogdbhdhaaDoor.P
/- Plain facts: the graphs and pairs that are read off numbers; membership; equality; toggling as a symmetric difference. -/
namespace Go.Proofs.YtjmdlmogdbhdhaaDoor.P
open Go.RowKit Go.Proofs.YtjmdlmogdbhdhaaDoorW.PrintWords Go.Proofs.YtjmdlmogdbhdhaaDoorW.PrintLast Go.Proofs.YtjmdlmogdbhdhaaDoorW.PrintMore
structure GL (N : Int) (L : List S42) (a b : Int) : Prop where
  inr : InR N L
  ord : L.Pairwise ltS
  lt : ∀ p ∈ L, ltS p ⟨a, b⟩
theorem GL.good {N : Int} {L : List S42} {a b : Int} (h : GL N L a b) (h0 : 0 ≤ N) (h1 : N ≤ 40) : GoodG N L := ⟨h0, h1, h.inr, h.ord⟩
theorem GL.next {N : Int} {L : List S42} {a b : Int} (h : GL N L a b) : GL N L a (b + 1) := ⟨h.inr, h.ord, fun p hp => by have := h.lt p hp; simp only [ltS] at *; omega⟩
theorem GL.put {N : Int} {L : List S42} {a b : Int} (h : GL N L a b) (ha : 0 ≤ a) (ha1 : a < N) (hb : 0 ≤ b) (hb1 : b < N) : GL N (L ++ [⟨a, b⟩]) a (b + 1) := by
  refine ⟨?_, ?_, ?_⟩
  · intro p hp
    rcases List.mem_append.1 hp with hp | hp
    · exact h.inr p hp
    · obtain rfl := List.mem_singleton.1 hp
      exact ⟨ha, ha1, hb, hb1⟩
  · rw [List.pairwise_append]
    refine ⟨h.ord, List.pairwise_singleton _ _, fun p hp q hq => ?_⟩
    obtain rfl := List.mem_singleton.1 hq
    exact h.lt p hp
  · intro p hp
    rcases List.mem_append.1 hp with hp | hp
    · have := h.lt p hp
      simp only [ltS] at *
      omega
    · obtain rfl := List.mem_singleton.1 hp
      exact .inr ⟨rfl, by show b < b + 1; omega⟩
theorem GL.row {N : Int} {L : List S42} {a b : Int} (h : GL N L a b) (c : Int) : GL N L (a + 1) c := ⟨h.inr, h.ord, fun p hp => by have := h.lt p hp; simp only [ltS] at *; omega⟩
theorem graph_l1 {l : List Int} {d N : Int} (hd : 2 ≤ d ∧ d ≤ 5) (hN : 1 ≤ N ∧ N ≤ 40) (a : Nat) (ha : (a : Int) < N)
    (ih0 : ∀ p L, SOk l p → GL N L ((a + 1 : Nat) : Int) 0 → ∃ L' q, Ev (fun k => deliberationnet_Graph.l0 k d ((a + 1 : Nat) : Int) l p N L) (N, L', q) ∧ SOk l q ∧ GoodG N L') :
    ∀ (n b : Nat), ((n + b : Nat) : Int) = N → ∀ p L, SOk l p → GL N L a b → ∃ L' q, Ev (fun k => deliberationnet_Graph.l1 k d (a : Int) (b : Int) l p N L) (N, L', q) ∧ SOk l q ∧ GoodG N L'
  | 0, b, hb, p, L, hp, hL => by
    obtain ⟨L', q, e, hq, hg⟩ := ih0 p L hp (by have := hL.row 0; exact this)
    refine ⟨L', q, Ev.succ ?_, hq, hg⟩
    have hw : wrap64 ((a : Int) + 1) = ((a + 1 : Nat) : Int) := by rw [wrap_id _ (by omega) (by omega)]; rfl
    simp only [deliberationnet_Graph.l1, hw]
    exact Ev.neg (by omega) e
  | n + 1, b, hb, p, L, hp, hL => by
    have ihn := graph_l1 hd hN a ha ih0 n (b + 1) (by omega)
    have hw : wrap64 ((b : Int) + 1) = ((b + 1 : Nat) : Int) := by rw [wrap_id _ (by omega) (by omega)]; rfl
    have hlen := good_len (hL.good (by omega) hN.2)
    have fin : ∀ (m : Int), 1 ≤ m → m ≤ 100 → ∃ L' q, Ev (fun k => (deliberationkeep_Src_N.f l p m).bind fun bt => (if bt.1 = 1 then (if L.length < 8796093022208 then (deliberationnet_Graph.l1 k d (a : Int) ((b + 1 : Nat) : Int) l bt.2 N (L ++ [(⟨(a : Int), (b : Int)⟩ : S42)])) else (none)) else (deliberationnet_Graph.l1 k d (a : Int) ((b + 1 : Nat) : Int) l bt.2 N L))) (N, L', q) ∧ SOk l q ∧ GoodG N L' := by
      intro m hm hm2
      obtain ⟨v, q, e, hq, _, _⟩ := n_ok hp m hm (by omega)
      simp only [e, Option.bind_some]
      by_cases hv : v = 1
      · obtain ⟨L', q', e2, h2, h3⟩ := ihn q (L ++ [⟨a, b⟩]) hq (hL.put (by omega) ha (by omega) (by omega))
        exact ⟨L', q', Ev.pos hv (Ev.pos (by omega) e2), h2, h3⟩
      · obtain ⟨L', q', e2, h2, h3⟩ := ihn q L hq hL.next
        exact ⟨L', q', Ev.neg hv e2, h2, h3⟩
    by_cases hab : (a : Int) = (b : Int)
    · obtain ⟨L', q, e, hq, hg⟩ := fin 9 (by omega) (by omega)
      refine ⟨L', q, Ev.succ ?_, hq, hg⟩
      simp only [deliberationnet_Graph.l1, hw]
      exact Ev.pos (by omega) (Ev.pos hab e)
    · obtain ⟨L', q, e, hq, hg⟩ := fin d (by omega) (by omega)
      refine ⟨L', q, Ev.succ ?_, hq, hg⟩
      simp only [deliberationnet_Graph.l1, hw]
      exact Ev.pos (by omega) (Ev.neg hab e)
theorem graph_l0 {l : List Int} {d N : Int} (hd : 2 ≤ d ∧ d ≤ 5) (hN : 1 ≤ N ∧ N ≤ 40) :
    ∀ (n a : Nat), ((n + a : Nat) : Int) = N → ∀ p L, SOk l p → GL N L a 0 → ∃ L' q, Ev (fun k => deliberationnet_Graph.l0 k d (a : Int) l p N L) (N, L', q) ∧ SOk l q ∧ GoodG N L'
  | 0, a, ha, p, L, hp, hL => by
    refine ⟨L, p, Ev.succ ?_, hp, hL.good (by omega) hN.2⟩
    simp only [deliberationnet_Graph.l0]
    exact Ev.neg (by omega) (Ev.const _)
  | n + 1, a, ha, p, L, hp, hL => by
    have hn : ((N.toNat + 0 : Nat) : Int) = N := by omega
    obtain ⟨L', q, e, hq, hg⟩ := graph_l1 hd hN a (by omega) (fun p L h1 h2 => graph_l0 hd hN n (a + 1) (by omega) p L h1 h2) N.toNat 0 hn p L hp hL
    refine ⟨L', q, Ev.succ ?_, hq, hg⟩
    simp only [deliberationnet_Graph.l0]
    exact Ev.pos (by omega) e
theorem graph_ok {l : List Int} {p : Int} (h : SOk l p) (n : Int) (h1 : 1 ≤ n) (h2 : n ≤ 40) : ∃ N L q, Ev (fun k => deliberationnet_Graph.f k l p n) (N, L, q) ∧ SOk l q ∧ GoodG N L ∧ 1 ≤ N ∧ N ≤ n := by
  obtain ⟨N, q1, e1, hq1, b1, b2⟩ := range_ok h 1 n (by omega) h1 (by omega)
  obtain ⟨d, q2, e2, hq2, b3, b4⟩ := range_ok hq1 2 5 (by omega) (by omega) (by omega)
  obtain ⟨L, q, e3, hq, hg⟩ := graph_l0 (l := l) (d := d) (N := N) ⟨b3, b4⟩ ⟨b1, by omega⟩ N.toNat 0 (by omega) q2 [] hq2 ⟨by intro p hp; simp at hp, List.Pairwise.nil, by intro p hp; simp at hp⟩
  refine ⟨N, L, q, ?_, hq, hg, b1, b2⟩
  simp only [deliberationnet_Graph.f, e1, e2, Option.bind_some]
  exact e3
theorem pairs_l0 {l : List Int} {N : Int} (hN : 1 ≤ N ∧ N ≤ 40) : ∀ (n : Nat), n ≤ 4 → ∀ p ps, SOk l p → InR N ps → ps.length + n ≤ 4 → ∃ ps' q, Ev (fun k => deliberationlaw21_pairs.l0 k N ps (n : Int) l p) (ps', q) ∧ SOk l q ∧ InR N ps' ∧ ps'.length ≤ 4
  | 0, _, p, ps, hp, hr, hl => by
    refine ⟨ps, p, Ev.succ ?_, hp, hr, by omega⟩
    simp only [deliberationlaw21_pairs.l0]
    exact Ev.neg (by omega) (Ev.const _)
  | n + 1, hn, p, ps, hp, hr, hl => by
    obtain ⟨u, q1, e1, hq1, b1, b2⟩ := n_ok hp N hN.1 (by omega)
    obtain ⟨v, q2, e2, hq2, b3, b4⟩ := n_ok hq1 N hN.1 (by omega)
    obtain ⟨ps', q, e3, hq, hr', hl'⟩ := pairs_l0 hN n (by omega) q2 (ps ++ [⟨u, v⟩]) hq2 (by
      intro x hx
      rcases List.mem_append.1 hx with hx | hx
      · exact hr x hx
      · obtain rfl := List.mem_singleton.1 hx
        exact ⟨b1, b2, b3, b4⟩) (by simp; omega)
    refine ⟨ps', q, Ev.succ ?_, hq, hr', hl'⟩
    have hw : wrap64 (((n + 1 : Nat) : Int) - 1) = (n : Int) := by rw [wrap_id _ (by omega) (by omega)]; omega
    simp only [deliberationlaw21_pairs.l0, e1, e2, Option.bind_some, hw]
    exact Ev.pos (by omega) (Ev.pos (by omega) e3)
theorem pairs_ok {l : List Int} {p N : Int} (h : SOk l p) (hN : 1 ≤ N ∧ N ≤ 40) : ∃ ps q, Ev (fun k => deliberationlaw21_pairs.f k l p N) (ps, q) ∧ SOk l q ∧ InR N ps ∧ ps.length ≤ 4 := by
  obtain ⟨n, q1, e1, hq1, b1, b2⟩ := n_ok h 5 (by omega) (by omega)
  obtain ⟨ps, q, e2, hq, hr, hl⟩ := pairs_l0 (l := l) hN n.toNat (by omega) q1 [] hq1 (by intro x hx; simp at hx) (by simp; omega)
  refine ⟨ps, q, ?_, hq, hr, hl⟩
  simp only [deliberationlaw21_pairs.f, e1, Option.bind_some]
  rw [show ((n.toNat : Nat) : Int) = n by omega] at e2
  exact e2
theorem has_l0 (l : List S42) (x : S42) (hl : l.length ≤ 1000000) : ∀ (n i : Nat), n + i = l.length → Ev (fun k => deliberationref21_Has.l0 k l (i : Int) x.f0 x.f1) (decide (x ∈ l.drop i))
  | 0, i, hi => by
    refine Ev.succ ?_
    simp only [deliberationref21_Has.l0]
    refine Ev.neg (by omega) ?_
    rw [List.drop_eq_nil_of_le (by omega)]
    exact Ev.const _
  | n + 1, i, hi => by
    have hlt : i < l.length := by omega
    have hw : wrap64 ((i : Int) + 1) = ((i + 1 : Nat) : Int) := by rw [wrap_id _ (by omega) (by omega)]; rfl
    have ih := has_l0 l x hl n (i + 1) (by omega)
    refine Ev.succ ?_
    simp only [deliberationref21_Has.l0, rdT_get l i hlt, hw]
    refine Ev.pos (by omega) (Ev.pos (by omega) ?_)
    rw [List.drop_eq_getElem_cons hlt]
    by_cases he : (l[i].f0 == x.f0 && l[i].f1 == x.f1) = true
    · refine Ev.pos he ?_
      have hx : x = l[i] := ((eqS_iff l[i] x).1 he).symm
      rw [decide_eq_true (by rw [← hx]; exact List.mem_cons_self)]
      exact Ev.const _
    · refine Ev.neg he ?_
      have hx : ¬ x = l[i] := fun hx => he ((eqS_iff l[i] x).2 hx.symm)
      rw [show decide (x ∈ l[i] :: l.drop (i + 1)) = decide (x ∈ l.drop (i + 1)) from decide_eq_decide.2 ⟨fun h => (List.mem_cons.1 h).resolve_left hx, List.mem_cons_of_mem _⟩]
      exact ih
theorem has_ev (l : List S42) (a b : Int) (hl : l.length ≤ 1000000) : Ev (fun k => deliberationref21_Has.f k l a b) (decide ((⟨a, b⟩ : S42) ∈ l)) := by
  have := has_l0 l ⟨a, b⟩ hl l.length 0 (by omega)
  rw [List.drop_zero] at this
  exact this
theorem pairs_same_l0 (l : List S42) (hl : l.length ≤ 1000000) : ∀ (n i : Nat), n + i = l.length → Ev (fun k => deliberationnet_Pairs.l0 k l l (i : Int)) true
  | 0, i, hi => by
    refine Ev.succ ?_
    simp only [deliberationnet_Pairs.l0]
    exact Ev.neg (by omega) (Ev.const _)
  | n + 1, i, hi => by
    have hw : wrap64 ((i : Int) + 1) = ((i + 1 : Nat) : Int) := by rw [wrap_id _ (by omega) (by omega)]; rfl
    have ih := pairs_same_l0 l hl n (i + 1) (by omega)
    refine Ev.succ ?_
    simp only [deliberationnet_Pairs.l0, hw]
    exact Ev.pos (by omega) (Ev.pos (by omega) (Ev.pos (by omega) (Ev.neg (by simp) ih)))
theorem pairs_same_ev (l : List S42) (hl : l.length ≤ 1000000) : Ev (fun k => deliberationnet_Pairs.f k l l) true := by
  simp only [deliberationnet_Pairs.f]
  exact Ev.pos trivial (pairs_same_l0 l hl l.length 0 (by omega))
theorem same_ev (N : Int) (l : List S42) (hl : l.length ≤ 1000000) : Ev (fun k => deliberationnet_Same.f k N l N l) true := by
  simp only [deliberationnet_Same.f]
  exact Ev.pos trivial (Ev.bind (pairs_same_ev l hl) (Ev.const _))
/-! ### toggling -/
theorem mget_mput (m : List (S42 × Bool)) (x y : S42) (v : Bool) : mget (mput m x v) y = if y = x then v else mget m y := by
  induction m with
  | nil =>
    simp only [mput, mget, eqS_iff]
  | cons a r ih =>
    obtain ⟨z, u⟩ := a
    simp only [mput]
    by_cases hz : eqS x z = true
    · rw [if_pos hz]
      obtain rfl := (eqS_iff x z).1 hz
      simp only [mget, eqS_iff]
      by_cases hy : y = x
      · simp [hy]
      · simp [hy]
    · rw [if_neg hz]
      have hz' : ¬ x = z := fun e => hz ((eqS_iff x z).2 e)
      simp only [mget, eqS_iff, ih]
      by_cases hy : y = z
      · subst hy
        have : ¬ y = x := fun e => hz' e.symm
        simp [this]
      · simp [hy]
theorem mput_keys (m : List (S42 × Bool)) (x : S42) (v : Bool) : (mput m x v).map (·.1) = if x ∈ m.map (·.1) then m.map (·.1) else m.map (·.1) ++ [x] := by
  induction m with
  | nil => simp [mput]
  | cons a r ih =>
    obtain ⟨z, u⟩ := a
    simp only [mput]
    by_cases hz : eqS x z = true
    · rw [if_pos hz]
      obtain rfl := (eqS_iff x z).1 hz
      simp
    · rw [if_neg hz]
      have hz' : ¬ x = z := fun e => hz ((eqS_iff x z).2 e)
      simp only [List.map_cons, ih, List.mem_cons, hz', false_or]
      by_cases hm : x ∈ r.map (·.1)
      · rw [if_pos hm, if_pos hm]
      · rw [if_neg hm, if_neg hm]
        rfl
def KN (m : List (S42 × Bool)) : Prop := (m.map (·.1)).Nodup
theorem KN.put {m : List (S42 × Bool)} (h : KN m) (x : S42) (v : Bool) : KN (mput m x v) := by
  unfold KN at *
  rw [mput_keys]
  split
  · exact h
  · rename_i hx
    rw [List.nodup_append]
    refine ⟨h, by simp, fun a ha b hb => ?_⟩
    obtain rfl := List.mem_singleton.1 hb
    rintro rfl
    exact hx ha
theorem mget_mem : ∀ {m : List (S42 × Bool)}, KN m → ∀ p, (p, true) ∈ m ↔ mget m p = true
  | [], _, p => by simp [mget]
  | (z, u) :: r, h, p => by
    unfold KN at h
    rw [List.map_cons, List.nodup_cons] at h
    have ih := mget_mem (m := r) h.2 p
    simp only [mget]
    by_cases hz : eqS p z = true
    · rw [if_pos hz]
      obtain rfl := (eqS_iff p z).1 hz
      have hn : ¬ (p, true) ∈ r := fun hm => h.1 (List.mem_map.2 ⟨_, hm, rfl⟩)
      rw [List.mem_cons]
      constructor
      · rintro (e | e)
        · exact (Prod.mk.inj e).2.symm
        · exact absurd e hn
      · intro hu
        exact .inl (by rw [hu])
    · rw [if_neg hz, List.mem_cons, ← ih]
      have hz' : ¬ p = z := fun e => hz ((eqS_iff p z).2 e)
      constructor
      · rintro (e | e)
        · exact absurd (Prod.mk.inj e).1 hz'
        · exact e
      · exact .inr
theorem togOut_mem {m : List (S42 × Bool)} (h : KN m) (p : S42) : p ∈ togOut m ↔ mget m p = true := by
  rw [← mget_mem h]
  unfold togOut
  simp only [List.mem_map, List.mem_filter]
  constructor
  · rintro ⟨⟨q, u⟩, ⟨h1, h2⟩, rfl⟩
    simp only at h2
    subst h2
    exact h1
  · intro hp
    exact ⟨(p, true), ⟨hp, rfl⟩, rfl⟩
theorem togOut_nodup {m : List (S42 × Bool)} (h : KN m) : (togOut m).Nodup := List.Nodup.sublist (List.filter_sublist.map _) h
theorem tog1_facts (l : List S42) : KN (tog1 l) ∧ ∀ p, mget (tog1 l) p = decide (p ∈ l) := by
  have h : ∀ (l : List S42) (m : List (S42 × Bool)), KN m → KN (l.foldl (fun m p => mput m p true) m) ∧ ∀ p, mget (l.foldl (fun m p => mput m p true) m) p = (decide (p ∈ l) || mget m p) := by
    intro l
    induction l with
    | nil => intro m hm; exact ⟨hm, fun p => by simp⟩
    | cons x r ih =>
      intro m hm
      obtain ⟨h1, h2⟩ := ih (mput m x true) (hm.put x true)
      refine ⟨h1, fun p => ?_⟩
      simp only [List.foldl_cons, h2, mget_mput, List.mem_cons]
      by_cases hp : p = x
      · simp [hp]
      · simp [hp]
  obtain ⟨h1, h2⟩ := h l [] (by simp [KN])
  exact ⟨h1, fun p => by have := h2 p; simpa [tog1, mget] using this⟩
theorem tog3_facts : ∀ (l : List S42) (seen there : List (S42 × Bool)), l.Nodup → (∀ p ∈ l, mget seen p = false) → KN there → ∃ m, tog3 l seen there = some m ∧ KN m ∧ ∀ p, mget m p = (mget there p != decide (p ∈ l))
  | [], seen, there, _, _, hk => ⟨there, rfl, hk, fun p => by simp⟩
  | x :: r, seen, there, hn, hs, hk => by
    rw [List.nodup_cons] at hn
    obtain ⟨m, e, hkm, hm⟩ := tog3_facts r (mput seen x true) (mput there x (!mget there x)) hn.2 (fun p hp => by
      rw [mget_mput, if_neg (by rintro rfl; exact hn.1 hp)]
      exact hs p (by simp [hp])) (hk.put _ _)
    refine ⟨m, ?_, hkm, fun p => ?_⟩
    · simp only [tog3, hs x (by simp), Bool.false_eq_true, if_false]
      exact e
    · rw [hm, mget_mput]
      by_cases hp : p = x
      · subst hp
        simp [hn.1]
      · simp [hp]
theorem sort_good {l : List S42} (h : l.Nodup) : (isP l).Pairwise ltS := by
  rw [isP_eq]
  have h1 := List.pairwise_mergeSort leP_trans leP_total l
  have h2 : (l.mergeSort leP).Nodup := (List.mergeSort_perm l leP).nodup_iff.2 h
  refine (h1.and (List.nodup_iff_pairwise_ne.1 h2)).imp ?_
  rintro ⟨a, b⟩ ⟨c, d⟩ ⟨h3, h4⟩
  simp [leP] at h3
  have h5 : ¬ (a = c ∧ b = d) := fun e => h4 (by rw [e.1, e.2])
  simp only [ltS]
  omega
/-- Toggling: the symmetric difference, in order. -/
def SymD (L l R : List S42) : Prop := ∀ p, p ∈ R ↔ ((p ∈ L ∧ ¬ p ∈ l) ∨ (¬ p ∈ L ∧ p ∈ l))
theorem toggle_ok {N : Int} {L l : List S42} (hG : GoodG N L) (hl : InR N l) (hn : l.Nodup) (hlen : l.length ≤ 10000) : ∃ R, GoodG N R ∧ SymD L l R ∧ Ev (fun k => enforce_Toggle.f k N L l) (N, R, 0) := by
  obtain ⟨hk1, h1⟩ := tog1_facts L
  obtain ⟨m, e, hkm, hm⟩ := tog3_facts l [] (tog1 L) hn (fun p _ => rfl) hk1
  have hmem : SymD L l (isP (togOut m)) := by
    intro p
    rw [isP_eq, List.mem_mergeSort, togOut_mem hkm, hm, h1]
    by_cases ha : p ∈ L <;> by_cases hb : p ∈ l <;> simp [ha, hb]
  have hord := sort_good (togOut_nodup hkm)
  refine ⟨isP (togOut m), ⟨hG.n0, hG.n1, fun p hp => ?_, hord⟩, hmem, ?_⟩
  · rcases (hmem p).1 hp with ⟨h3, _⟩ | ⟨_, h3⟩
    · exact hG.inr p h3
    · exact hl p h3
  · have hgl := good_len hG
    simp only [enforce_Toggle.f]
    refine Ev.bind (valid_ev hG) ?_
    refine Ev.pos rfl (Ev.pos (by omega) (Ev.neg ?_ ?_))
    · rw [List.any_eq_true]
      rintro ⟨p, hp, hb⟩
      have := hl p hp
      simp [rangeBad] at hb
      omega
    · rw [e]
      exact Ev.const _
theorem symD_unique {L l R R' : List S42} (h1 : R.Pairwise ltS) (h2 : R'.Pairwise ltS) (h3 : SymD L l R) (h4 : SymD L l R') : R = R' := ord_unique h1 h2 (fun p => (h3 p).trans (h4 p).symm)
end Go.Proofs.YtjmdlmogdbhdhaaDoor.P
/- Plain facts: the sanity check 'awake' tells true. -/
namespace Go.Proofs.YtjmdlmogdbhdhaaDoor.P
open Go.RowKit Go.Proofs.YtjmdlmogdbhdhaaDoorW.PrintWords Go.Proofs.YtjmdlmogdbhdhaaDoorW.PrintLast Go.Proofs.YtjmdlmogdbhdhaaDoorW.PrintMore
theorem awake_ev : Ev (fun k => deliberationlaw21_awake.f k) true := Ev.of_mono (fun k => deliberationlaw21_awake.mono k) (k := 60) (by decide +kernel)
end Go.Proofs.YtjmdlmogdbhdhaaDoor.P
/- Plain facts: the law EnforceUndone. -/
namespace Go.Proofs.YtjmdlmogdbhdhaaDoor.P
open Go.RowKit Go.Proofs.YtjmdlmogdbhdhaaDoorW.PrintWords Go.Proofs.YtjmdlmogdbhdhaaDoorW.PrintLast Go.Proofs.YtjmdlmogdbhdhaaDoorW.PrintMore
theorem undone_l0 {N : Int} {L ps : List S42} (hG : GoodG N L) (hr : InR N ps) (hps : ps.length ≤ 4) :
    ∀ (n i : Nat), n + i = ps.length → ∀ x y : List S42, x.Nodup → InR N x → y.Nodup → (∀ p, p ∈ y ↔ p ∈ x) → x.length ≤ i → y.length ≤ i →
      Ev (fun k => deliberationlaw21_EnforceUndone.l0 k x y ps (ps.length : Int) (i : Int) N L) true
  | 0, i, hi, x, y, hx, hxr, hy, hxy, lx, ly => by
    obtain ⟨A, gA, sA, eA⟩ := toggle_ok hG hxr hx (by omega)
    obtain ⟨B, gB, sB, eB⟩ := toggle_ok hG (fun p hp => hxr p ((hxy p).1 hp)) hy (by omega)
    obtain ⟨C, gC, sC, eC⟩ := toggle_ok gA hxr hx (by omega)
    have hAB : A = B := ord_unique gA.ord gB.ord (fun p => by rw [sA p, sB p, hxy p])
    have hCL : C = L := ord_unique gC.ord hG.ord (fun p => by
      have h1 := sA p
      have h2 := sC p
      by_cases h3 : p ∈ L <;> by_cases h4 : p ∈ x <;> simp [h3, h4] at h1 h2 ⊢ <;> simp [h1] at h2 <;> exact h2)
    subst hAB
    subst hCL
    have hlA := good_len gA
    have hlC := good_len gC
    refine Ev.succ ?_
    simp only [deliberationlaw21_EnforceUndone.l0]
    refine Ev.neg (by omega) (Ev.bind eA (Ev.bind eB (Ev.bind eC ?_)))
    refine Ev.pos rfl (Ev.pos rfl (Ev.pos rfl (Ev.bind (same_ev _ A (by omega)) (Ev.pos rfl (Ev.bind (same_ev _ C (by omega)) (Ev.pos rfl (Ev.bind awake_ev (Ev.const _))))))))
  | n + 1, i, hi, x, y, hx, hxr, hy, hxy, lx, ly => by
    have hlt : i < ps.length := by omega
    have hw : wrap64 ((i : Int) + 1) = ((i + 1 : Nat) : Int) := by rw [wrap_id _ (by omega) (by omega)]; rfl
    have ih := undone_l0 hG hr hps n (i + 1) (by omega)
    have hp := hr _ (List.getElem_mem hlt)
    refine Ev.succ ?_
    simp only [deliberationlaw21_EnforceUndone.l0, rdT_get ps i hlt, hw]
    refine Ev.pos (by omega) (Ev.pos (by omega) (Ev.pos (by omega) (Ev.bind (has_ev _ _ _ (by omega)) ?_)))
    by_cases hm : ps[i] ∈ x
    · exact Ev.pos (by simpa using hm) (ih x y hx hxr hy hxy (by omega) (by omega))
    · refine Ev.neg (by simpa using hm) ?_
      simp only [Option.bind_some]
      refine Ev.pos (by simp; omega) (Ev.pos (by simp; omega) ?_)
      refine ih _ _ ?_ ?_ ?_ ?_ (by simp; omega) (by simp; omega)
      · rw [List.nodup_append]
        refine ⟨hx, by simp, fun a ha b hb => ?_⟩
        obtain rfl := List.mem_singleton.1 hb
        rintro rfl
        exact hm ha
      · intro p hp'
        rcases List.mem_append.1 hp' with h | h
        · exact hxr p h
        · obtain rfl := List.mem_singleton.1 h
          exact hp
      · show (ps[i] :: y).Nodup
        rw [List.nodup_cons]
        exact ⟨fun h => hm ((hxy _).1 h), hy⟩
      · intro p
        show p ∈ ps[i] :: y ↔ p ∈ x ++ [ps[i]]
        rw [List.mem_cons, List.mem_append, List.mem_singleton, hxy]
        exact Or.comm
theorem undone_pure : deliberationlaw21_EnforceUndone.Pure := by
  intro l0 _ _ hw
  obtain ⟨l2, e0, h0⟩ := new_ok l0 hw
  obtain ⟨N, L, q1, e1, h1, hG, b1, b2⟩ := graph_ok h0 8 (by omega) (by omega)
  obtain ⟨ps, q2, e2, h2, hr, hlen⟩ := pairs_ok h1 ⟨b1, by omega⟩
  refine Ev.now ?_
  simp only [deliberationlaw21_EnforceUndone.f, e0, Option.bind_some]
  exact Ev.bind e1 (Ev.bind e2 (undone_l0 hG hr hlen ps.length 0 (by omega) [] [] (by simp) (by intro p hp; simp at hp) (by simp) (by simp) (by simp) (by simp)))
end Go.Proofs.YtjmdlmogdbhdhaaDoor.P
