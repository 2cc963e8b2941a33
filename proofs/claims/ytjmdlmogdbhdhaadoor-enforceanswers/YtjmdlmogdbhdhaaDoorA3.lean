import Derived.Lib.SliceRun
import Derived.Test.YtjmdlmogdbhdhaaDoorA2
namespace Go.Proofs.YtjmdlmogdbhdhaaDoor.P
open Go.RowKit Go.Proofs.YtjmdlmogdbhdhaaDoorW.PrintWords Go.Proofs.YtjmdlmogdbhdhaaDoorW.PrintLast Go.Proofs.YtjmdlmogdbhdhaaDoorW.PrintMore
attribute [local go_sem] iI iJ jP jQ gH gI iK iL
set_option linter.unusedVariables false
set_option linter.unusedSimpArgs false
set_option maxHeartbeats 8000000
set_option maxRecDepth 100000
mutual
def bF.l0 : Nat → Int → Int → Int → List (aD) → Int → List Int → List Int → Option (Int × List Int × List Int)
 | 0, _, _, _, _, _, _, _ => none
 | k + 1, Mh, Jn, aem, Ow, Fj, Bq, Br => if Jn < Mh then ((fM.f Fj Jn).bind fun t144 => (bF.l0 k Mh (wrap64 (Jn + 1)) aem Ow t144 Bq Br)) else (bF.l1 k Ow (Ow.length : Int) 0 Fj Bq Br)
def bF.l1 : Nat → List (aD) → Int → Int → Int → List Int → List Int → Option (Int × List Int × List Int)
 | 0, _, _, _, _, _, _ => none
 | k + 1, KJ, x27, x28, Fj, Bq, Br => if x28 < x27 then (if 0 ≤ x28 then (if x28 < (KJ.length : Int) then (if 0 ≤ ((aa KJ x28).f1) then (if ((aa KJ x28).f1) < (Bq.length : Int) then ((fM.f (rd Bq ((aa KJ x28).f1)) ((aa KJ x28).f0)).bind fun t148 => (if 0 ≤ ((aa KJ x28).f0) then (if ((aa KJ x28).f0) < (Br.length : Int) then ((fM.f (rd Br ((aa KJ x28).f0)) ((aa KJ x28).f1)).bind fun t151 => (bF.l1 k KJ x27 (wrap64 (x28 + 1)) Fj (Bq.set (((aa KJ x28).f1) : Int).toNat t148) (Br.set (((aa KJ x28).f0) : Int).toNat t151))) else (none)) else (none))) else (none)) else (none)) else (none)) else (none)) else (some (Fj, Bq, Br))
end
def bF.f (k : Nat) (au : Int) (ah : List (aD)) : Option (Int × List Int × List Int) := if 0 ≤ au then (if (au : Int).toNat ≤ 35184372088832 then (bF.l0 k au 0 au ah 0 (List.replicate (au : Int).toNat 0) (List.replicate (au : Int).toNat 0)) else (none)) else (none)
def bF.T1 : Bool × List (List Nat × List Nat) := (true, [([], []), ([0], [0]), ([1, 1], [1]), ([], []), ([3], [3]), ([4, 4], [4]), ([2, 5], [2, 5]), ([], []), ([7, 6, 0, 1, 2, 3, 4, 5, 6, 7], [6, 7])])
def bF.B1 : List Nat := [0, 1, 3, 0, 8, 24, 63, 0, 255]
theorem bF.Kn : oO .any (opsOf Tryd.f49 1) = bF.T1 := by kernel_rfl
theorem bF.CU : lD bF.T1.2 bF.B1 = true := by kernel_rfl
def bF.T10 : Bool × List (List Nat × List Nat) := (true, [([], []), ([0], [0]), ([], []), ([2], [2]), ([], []), ([4], [4]), ([], []), ([6], [6]), ([5, 7], [5, 7]), ([8], [8]), ([], []), ([10], [10]), ([9, 11], [9, 11]), ([1, 3, 0, 1, 2, 3, 4, 5, 6, 7, 8, 9, 10, 11, 12], [1, 3]), ([13, 12, 12, 0, 1, 2, 3, 4, 5, 6, 7, 8, 9, 10, 11, 12], [12, 13])])
def bF.B10 : List Nat := [0, 1, 0, 4, 0, 16, 0, 64, 240, 496, 0, 1024, 4080, 8191, 16383]
theorem bF.an1 : oO .any (opsOf Tryd.f49 10) = bF.T10 := by kernel_rfl
theorem bF.ajo : lD bF.T10.2 bF.B10 = true := by kernel_rfl
def bF.T11 : Bool × List (List Nat × List Nat) := (true, [([], []), ([0], [0]), ([], []), ([2], [2]), ([], []), ([4], [4]), ([], []), ([6], [6]), ([5, 7], [5, 7]), ([8], [8]), ([], []), ([10], [10]), ([9, 11], [9, 11]), ([1, 3, 0, 1, 2, 3, 4, 5, 6, 7, 8, 9, 10, 11, 12], [1, 3]), ([13, 12, 12, 0, 1, 2, 3, 4, 5, 6, 7, 8, 9, 10, 11, 12], [12, 13])])
def bF.B11 : List Nat := [0, 1, 0, 4, 0, 16, 0, 64, 240, 496, 0, 1024, 4080, 8191, 16383]
theorem bF.an2 : oO .any (opsOf Tryd.f49 11) = bF.T11 := by kernel_rfl
theorem bF.ajp : lD bF.T11.2 bF.B11 = true := by kernel_rfl
theorem bF.calls (k : Nat) (au : Int) (aZ : Option Addr) (aW : Nat) (ah : List (aD)) (r1 : Int) (r2 : List Int) (r3 : List Int) (w : World) (eY : Kd.C gm w aZ ah.length ah) (eZ : ah.length ≤ aW) (h : bF.f k au ah = some (r1, r2, r3)) :
 Calls Tryd.prog 49 #[.agg #[.int .i64 au, .slice aZ ah.length aW]] w fun e w' => ∃ C8 P9 : Value, e = .returned (.agg #[.int .u64 r1, C8, P9]) ∧ Kd.R (Kd.int .u64) 76 w' w.heap.size (fun k_ => some k_ ≠ (P9 : Value).ownBlock) C8 r2 ∧ Kd.R (Kd.int .u64) 76 w' w.heap.size (fun k_ => some k_ ≠ (C8 : Value).ownBlock) P9 r3 ∧ Below w.heap.size w w' := by
 have uk := Tryd.underlying24; have Uk := Tryd.underlying80; have wV := Tryd.underlying42; have cz := zA eY; have dX := zA eZ; clear eY eZ; have HB := zA (Below.refl w.heap.size w); have H : (if 0 ≤ au then (if (au : Int).toNat ≤ 35184372088832 then (bF.l0 k au 0 au ah 0 (List.replicate (au : Int).toNat 0) (List.replicate (au : Int).toNat 0)) else (none)) else (none)) = some (r1, r2, r3) := h; clear h; by_cases c2 : 0 ≤ au
 · rw [if_pos c2] at H; have Mg := eq_true c2; have aej := decide_eq_true c2; clear c2; by_cases c3 : (au : Int).toNat ≤ 35184372088832
   · rw [if_pos c3] at H; have zF := eq_true c3; have TV := decide_eq_true c3; clear c3; obtain ⟨vS, QY⟩ : ∃ y_ : List Int, y_ = (List.replicate (au : Int).toNat 0) := ⟨_, rfl⟩; replace H : (bF.l0 k au 0 au ah 0 vS (List.replicate (au : Int).toNat 0)) = some (r1, r2, r3) := by first | (rw [QY]; with_reducible exact H) | (have iW := (Option.bind_some _ _).symm.trans H; rw [QY]; with_reducible exact iW) | (have iW := (Option.bind_some _ _).symm.trans H; with_reducible exact iW) | with_reducible exact H | (rw [QY]; exact H) | exact H
     have I7 := zA QY; clear QY; obtain ⟨wZ, QZ⟩ : ∃ y_ : List Int, y_ = (List.replicate (au : Int).toNat 0) := ⟨_, rfl⟩; replace H : (bF.l0 k au 0 au ah 0 vS wZ) = some (r1, r2, r3) := by first | (rw [QZ]; with_reducible exact H) | (have iW := (Option.bind_some _ _).symm.trans H; rw [QZ]; with_reducible exact iW) | (have iW := (Option.bind_some _ _).symm.trans H; with_reducible exact iW) | with_reducible exact H | (rw [QZ]; exact H) | exact H
     have I8 := zA QZ; clear QZ; have H' := zA H; clear H; go_enter Tryd.func49, Tryd.ntmps49; try go_wp2_with (first | ((with_reducible refine aH (N := 1) rfl ?_); refine zX (N := 1) (cs := #[.int .i64 au, .slice aZ ah.length aW]) (t := 24) ?_; intro gU hg w4 aG hb; have dP := zA (aG); have ayd := zA (zW hg HB); have aye := zA (zW hg HB); replace HB := zA (af (zB HB) hb); clear hb aG hg) | ((with_reducible refine aH (N := 2) rfl ?_); refine zX (N := 2) (cs := #[.int .u64 0, .slice none 0 0, .slice none 0 0]) (t := 80) ?_; intro kZ hg w5 aG hb; have fE := zA (aG); have ayf := zA (zW hg HB); have ayg := zA (zW hg HB); have Hq := zA (lZ hg dP); have Hr := zA (l5 hg dP); replace dP := zA (dn dP hb); replace HB := zA (af (zB HB) hb); clear hb aG hg))
     replace dP := zA (bO dP.out); replace fE := zA (bO fE.out); replace HB := zA (bn HB.out); refine EJ (n := 9) (S := fun w' => w'.cell? ⟨gU, 0, none⟩ = some (.int .i64 au) ∧ w'.cell? ⟨gU, 1, none⟩ = some (.slice aZ ah.length aW)) (ds := []) bF.Kn bF.CU ⟨(ai dP.out 0).trans rfl, (ai dP.out 1).trans rfl⟩ (fun hHeld qd DY => ?_); generalize w5.drew = w6 at dP fE HB hHeld ⊢; refine zp 0 ?_; refine zp 3 ?_; refine zt 1 ?_; refine zt 4 ?_; refine Cb (σ := Value × Value × Nat) 1 #[true, true, true, true, true, true, true, true, false] (fun s_ => [(9, s_.1), (12, s_.2.1), (3, .pointer (some ⟨s_.2.2, 0, none⟩)), (13, .agg #[.int .u64 0, s_.1, s_.2.1])]) (fun s_ w' => (w'.cell? ⟨gU, 0, none⟩ = some (.int .i64 au) ∧ w'.cell? ⟨gU, 1, none⟩ = some (.slice aZ ah.length aW)) ∧ (Kd.R (Kd.int .u64) 76 w' w.heap.size (fun k_ => some k_ ≠ (s_.2.1 : Value).ownBlock) s_.1 vS) ∧ (Kd.R (Kd.int .u64) 76 w' w.heap.size (fun k_ => some k_ ≠ (s_.1 : Value).ownBlock) s_.2.1 wZ) ∧ (w'.heap[gU]? = some (.cells #[.int .i64 au, .slice aZ ah.length aW] 24 (0, 0))) ∧ (w'.heap[kZ]? = some (.cells #[.int .u64 0, .slice none 0 0, .slice none 0 0] 80 (0, 0))) ∧ (w'.heap[s_.2.2]? = some (.cells #[.int .u64 0, .slice none 0 0, .slice none 0 0] 80 (0, 0))) ∧ (w.heap.size ≤ s_.2.2) ∧ (w.heap.size ≤ s_.2.2) ∧ (gU ≠ s_.2.2) ∧ (s_.2.2 ≠ gU) ∧ (kZ ≠ s_.2.2) ∧ (s_.2.2 ≠ kZ) ∧ (Below w.heap.size w w')) ?_ ?_; rotate_left
     · intro Ox; refine Cb (σ := Value × Value) 2 #[true, true, true, true, true, true, true, false, false] (fun s_ => [(9, s_.1), (12, s_.2), (13, .agg #[.int .u64 0, s_.1, s_.2])]) (fun s_ w' => (w'.cell? ⟨gU, 0, none⟩ = some (.int .i64 au) ∧ w'.cell? ⟨gU, 1, none⟩ = some (.slice aZ ah.length aW)) ∧ (Kd.R (Kd.int .u64) 76 w' w.heap.size (fun k_ => some k_ ≠ (s_.2 : Value).ownBlock) s_.1 vS) ∧ (Kd.R (Kd.int .u64) 76 w' w.heap.size (fun k_ => some k_ ≠ (s_.1 : Value).ownBlock) s_.2 wZ) ∧ (w'.heap[gU]? = some (.cells #[.int .i64 au, .slice aZ ah.length aW] 24 (0, 0))) ∧ (w'.heap[kZ]? = some (.cells #[.int .u64 0, .slice none 0 0, .slice none 0 0] 80 (0, 0))) ∧ (Below w.heap.size w w')) ?_ ?_; rotate_left
       · intro agi; refine Cb (σ := Value × Nat) 3 #[true, true, true, true, true, false, false, true, false] (fun s_ => [(9, s_.1), (3, .pointer (some ⟨s_.2, 0, none⟩))]) (fun s_ w' => (w'.cell? ⟨gU, 0, none⟩ = some (.int .i64 au) ∧ w'.cell? ⟨gU, 1, none⟩ = some (.slice aZ ah.length aW)) ∧ (Kd.R (Kd.int .u64) 76 w' w.heap.size (fun _ => True) s_.1 vS) ∧ (w'.heap[gU]? = some (.cells #[.int .i64 au, .slice aZ ah.length aW] 24 (0, 0))) ∧ (w'.heap[kZ]? = some (.cells #[.int .u64 0, .slice none 0 0, .slice none 0 0] 80 (0, 0))) ∧ (w'.heap[s_.2]? = some (.cells #[.int .u64 0, .slice none 0 0, .slice none 0 0] 80 (0, 0))) ∧ (w.heap.size ≤ s_.2) ∧ (w.heap.size ≤ s_.2) ∧ (gU ≠ s_.2) ∧ (s_.2 ≠ gU) ∧ (kZ ≠ s_.2) ∧ (s_.2 ≠ kZ) ∧ (Below w.heap.size w w')) ?_ ?_; rotate_left
         · intro agj; refine Cb (σ := Value × Nat) 3 #[true, true, false, true, true, true, false, true, false] (fun s_ => [(12, s_.1), (3, .pointer (some ⟨s_.2, 0, none⟩))]) (fun s_ w' => (w'.cell? ⟨gU, 0, none⟩ = some (.int .i64 au) ∧ w'.cell? ⟨gU, 1, none⟩ = some (.slice aZ ah.length aW)) ∧ (Kd.R (Kd.int .u64) 76 w' w.heap.size (fun _ => True) s_.1 wZ) ∧ (w'.heap[gU]? = some (.cells #[.int .i64 au, .slice aZ ah.length aW] 24 (0, 0))) ∧ (w'.heap[kZ]? = some (.cells #[.int .u64 0, .slice none 0 0, .slice none 0 0] 80 (0, 0))) ∧ (w'.heap[s_.2]? = some (.cells #[.int .u64 0, .slice none 0 0, .slice none 0 0] 80 (0, 0))) ∧ (w.heap.size ≤ s_.2) ∧ (w.heap.size ≤ s_.2) ∧ (gU ≠ s_.2) ∧ (s_.2 ≠ gU) ∧ (kZ ≠ s_.2) ∧ (s_.2 ≠ kZ) ∧ (Below w.heap.size w w')) ?_ ?_; rotate_left
           · intro agk; refine Cb (σ := Value) 4 #[true, true, true, true, true, false, false, false, false] (fun s_ => [(9, s_)]) (fun s_ w' => (w'.cell? ⟨gU, 0, none⟩ = some (.int .i64 au) ∧ w'.cell? ⟨gU, 1, none⟩ = some (.slice aZ ah.length aW)) ∧ (Kd.R (Kd.int .u64) 76 w' w.heap.size (fun _ => True) s_ vS) ∧ (w'.heap[gU]? = some (.cells #[.int .i64 au, .slice aZ ah.length aW] 24 (0, 0))) ∧ (w'.heap[kZ]? = some (.cells #[.int .u64 0, .slice none 0 0, .slice none 0 0] 80 (0, 0))) ∧ (Below w.heap.size w w')) ?_ ?_; rotate_left
             · intro hJ2; refine Cb (σ := Value) 4 #[true, true, false, true, true, true, false, false, false] (fun s_ => [(12, s_)]) (fun s_ w' => (w'.cell? ⟨gU, 0, none⟩ = some (.int .i64 au) ∧ w'.cell? ⟨gU, 1, none⟩ = some (.slice aZ ah.length aW)) ∧ (Kd.R (Kd.int .u64) 76 w' w.heap.size (fun _ => True) s_ wZ) ∧ (w'.heap[gU]? = some (.cells #[.int .i64 au, .slice aZ ah.length aW] 24 (0, 0))) ∧ (w'.heap[kZ]? = some (.cells #[.int .u64 0, .slice none 0 0, .slice none 0 0] 80 (0, 0))) ∧ (Below w.heap.size w w')) ?_ ?_; rotate_left
               · intro hJ5; refine Cb (σ := Nat) 4 #[true, true, false, true, true, false, false, true, false] (fun s_ => [(3, .pointer (some ⟨s_, 0, none⟩))]) (fun s_ w' => (w'.cell? ⟨gU, 0, none⟩ = some (.int .i64 au) ∧ w'.cell? ⟨gU, 1, none⟩ = some (.slice aZ ah.length aW)) ∧ (w'.heap[gU]? = some (.cells #[.int .i64 au, .slice aZ ah.length aW] 24 (0, 0))) ∧ (w'.heap[kZ]? = some (.cells #[.int .u64 0, .slice none 0 0, .slice none 0 0] 80 (0, 0))) ∧ (w'.heap[s_]? = some (.cells #[.int .u64 0, .slice none 0 0, .slice none 0 0] 80 (0, 0))) ∧ (w.heap.size ≤ s_) ∧ (w.heap.size ≤ s_) ∧ (gU ≠ s_) ∧ (s_ ≠ gU) ∧ (kZ ≠ s_) ∧ (s_ ≠ kZ) ∧ (Below w.heap.size w w')) ?_ ?_; rotate_left
                 · intro hJ7; refine aiB (i := 2) (j := 5) (k := 7) (Ni := some 9) (Nj := some 12) (Nk := some 3) #[true, true, true, true, true, false, false, false, false] #[true, true, false, true, true, true, false, false, false] #[true, true, false, true, true, false, false, true, false] rfl rfl rfl rfl rfl rfl (aae qd.out (by kernel_rfl)) (by decide) (by decide) (by decide) (fun K hK => ?_) (fun K hK => ?_) (fun K hK => ?_)
                   · refine Kd.qc (Kd.int .u64) _ 76 (by rfl) (N := 9) rfl 78 _ _ rfl au rfl rfl Tryd.underlying78 (.int .u64 0) 8 CR rfl (by decide) (by omega) 0 (ok := fun _ => True) (tX := fun _ => True) rfl (fun _ hk => hk) trivial zo (Nat.le_trans (Nat.mul_le_mul_right _ (zo : au.toNat ≤ 35184372088832)) (by omega)) (Below.refl _ _) (Nat.le_refl _) ?_; intro v138 w7 ho8 hb Ac lS; clear Ac lS; (first | rw [← I7.out] at ho8 | (simp only [Int.reduceToNat] at ho8; rw [← I7.out] at ho8)); have nS := zA (Kd.dw ho8 (aJ (zB HB))); replace dP := zA (dn dP hb); replace fE := zA (dn fE hb); replace HB := zA (af (zB HB) hb); clear hb ho8; refine hK.out _ _ ⟨(ai dP.out 0).trans rfl, (ai dP.out 1).trans rfl⟩ (fun hHeld => ?_); clear hK K; refine qp 9 ?_; exact Jm (hJ2 (v138) _ ⟨hHeld, (zR nS), (zK dP), (zK fE), (zB HB)⟩)
                   · refine Kd.qc (Kd.int .u64) _ 76 (by rfl) (N := 12) rfl 78 _ _ rfl au rfl rfl Tryd.underlying78 (.int .u64 0) 8 CR rfl (by decide) (by omega) 0 (ok := fun _ => True) (tX := fun _ => True) rfl (fun _ hk => hk) trivial zo (Nat.le_trans (Nat.mul_le_mul_right _ (zo : au.toNat ≤ 35184372088832)) (by omega)) (Below.refl _ _) (Nat.le_refl _) ?_; intro v141 w7 ho8 hb Ac lS; clear Ac lS; (first | rw [← I8.out] at ho8 | (simp only [Int.reduceToNat] at ho8; rw [← I8.out] at ho8)); have nT := zA (Kd.dw ho8 (aJ (zB HB))); replace dP := zA (dn dP hb); replace fE := zA (dn fE hb); replace HB := zA (af (zB HB) hb); clear hb ho8; refine hK.out _ _ ⟨(ai dP.out 0).trans rfl, (ai dP.out 1).trans rfl⟩ (fun hHeld => ?_); clear hK K; refine qp 12 ?_; exact Jm (hJ5 (v141) _ ⟨hHeld, (zR nT), (zK dP), (zK fE), (zB HB)⟩)
                   · refine pK ?hg (N := 3) ?hd (cs := #[.int .u64 0, .slice none 0 0, .slice none 0 0]) (t := 80) ?hr ?_; (case hd => rfl); (case hg => rfl); (case hr => first | (go_simp; done) | (go_simp; rfl)); intro gM hg w7 aG hb; have gD := zA (aG); have yw := zA (zW hg HB); have yx := zA (zW hg HB); have fQ := zA (lZ hg dP); have jr := zA (l5 hg dP); have ja := zA (lZ hg fE); have jS := zA (l5 hg fE); replace dP := zA (dn dP hb); replace fE := zA (dn fE hb); replace HB := zA (af (zB HB) hb); clear hb aG hg; refine hK.out _ _ ⟨(ai dP.out 0).trans rfl, (ai dP.out 1).trans rfl⟩ (fun hHeld => ?_); clear hK K; refine qp 3 ?_; exact Jm (hJ7 (gM) _ ⟨hHeld, (zK dP), (zK fE), (zK gD), yw.out, yx.out, fQ.out, jr.out, ja.out, jS.out, (zB HB)⟩)
                 · rintro gM w8 ⟨EW, Df, Dg, Dh, Di, KL, M7, M8, M9, Na, Q0⟩; have gD : ag (w8.heap[gM]? = some (.cells #[.int .u64 0, .slice none 0 0, .slice none 0 0] 80 (0, 0))) := ⟨Dh⟩; have yw : ag (w.heap.size ≤ gM) := ⟨Di⟩; have yx : ag (w.heap.size ≤ gM) := ⟨KL⟩; have fQ : ag (gU ≠ gM) := ⟨M7⟩; have jr : ag (gM ≠ gU) := ⟨M8⟩; have ja : ag (kZ ≠ gM) := ⟨M9⟩; have jS : ag (gM ≠ kZ) := ⟨Na⟩; replace dP : ag (w8.heap[gU]? = some (.cells #[.int .i64 au, .slice aZ ah.length aW] 24 (0, 0))) := ⟨Df⟩; replace fE : ag (w8.heap[kZ]? = some (.cells #[.int .u64 0, .slice none 0 0, .slice none 0 0] 80 (0, 0))) := ⟨Dg⟩; replace HB : ag (Below w.heap.size w w8) := ⟨Q0⟩; clear Df Dg Dh Di KL M7 M8 M9 Na Q0; have hHeld : w8.cell? ⟨gU, 0, none⟩ = some (.int .i64 au) ∧ w8.cell? ⟨gU, 1, none⟩ = some (.slice aZ ah.length aW) := EW; refine ZC ?_; refine Ke (i := 2) (j := 5) (Ni := some 9) (Nj := some 12) #[true, true, true, true, true, false, false, true, false] #[true, true, false, true, true, true, false, true, false] rfl rfl rfl rfl (wB qd.out (by kernel_rfl)) (by decide) (by decide) (fun K hK => ?_) (fun K hK => ?_)
                   · refine Kd.qc (Kd.int .u64) _ 76 (by rfl) (N := 9) rfl 78 _ _ rfl au rfl rfl Tryd.underlying78 (.int .u64 0) 8 CR rfl (by decide) (by omega) 0 (ok := fun _ => True) (tX := fun _ => True) rfl (fun _ hk => hk) trivial zo (Nat.le_trans (Nat.mul_le_mul_right _ (zo : au.toNat ≤ 35184372088832)) (by omega)) (Below.refl _ _) (Nat.le_refl _) ?_; intro v138 w9 yl hb Ac lS; clear Ac lS; (first | rw [← I7.out] at yl | (simp only [Int.reduceToNat] at yl; rw [← I7.out] at yl)); have nS := zA (Kd.dw yl (aJ (zB HB))); replace dP := zA (dn dP hb); replace fE := zA (dn fE hb); replace gD := zA (dn gD hb); replace HB := zA (af (zB HB) hb); clear hb yl; refine hK.out _ _ ⟨(ai dP.out 0).trans rfl, (ai dP.out 1).trans rfl⟩ (fun hHeld => ?_); clear hK K; refine qp 9 ?_; exact Jm (agj (v138, gM) _ ⟨hHeld, (zR nS), (zK dP), (zK fE), (zK gD), yw.out, yx.out, fQ.out, jr.out, ja.out, jS.out, (zB HB)⟩)
                   · refine Kd.qc (Kd.int .u64) _ 76 (by rfl) (N := 12) rfl 78 _ _ rfl au rfl rfl Tryd.underlying78 (.int .u64 0) 8 CR rfl (by decide) (by omega) 0 (ok := fun _ => True) (tX := fun _ => True) rfl (fun _ hk => hk) trivial zo (Nat.le_trans (Nat.mul_le_mul_right _ (zo : au.toNat ≤ 35184372088832)) (by omega)) (Below.refl _ _) (Nat.le_refl _) ?_; intro v141 w9 yl hb Ac lS; clear Ac lS; (first | rw [← I8.out] at yl | (simp only [Int.reduceToNat] at yl; rw [← I8.out] at yl)); have nT := zA (Kd.dw yl (aJ (zB HB))); replace dP := zA (dn dP hb); replace fE := zA (dn fE hb); replace gD := zA (dn gD hb); replace HB := zA (af (zB HB) hb); clear hb yl; refine hK.out _ _ ⟨(ai dP.out 0).trans rfl, (ai dP.out 1).trans rfl⟩ (fun hHeld => ?_); clear hK K; refine qp 12 ?_; exact Jm (agk (v141, gM) _ ⟨hHeld, (zR nT), (zK dP), (zK fE), (zK gD), yw.out, yx.out, fQ.out, jr.out, ja.out, jS.out, (zB HB)⟩)
               · rintro v141 w9 ⟨EW, Df, Dg, Dh, Di⟩; have nT : ag (Kd.R (Kd.int .u64) 76 w9 w.heap.size (fun _ => True) v141 wZ) := ⟨Df⟩; replace dP : ag (w9.heap[gU]? = some (.cells #[.int .i64 au, .slice aZ ah.length aW] 24 (0, 0))) := ⟨Dg⟩; replace fE : ag (w9.heap[kZ]? = some (.cells #[.int .u64 0, .slice none 0 0, .slice none 0 0] 80 (0, 0))) := ⟨Dh⟩; replace HB : ag (Below w.heap.size w w9) := ⟨Di⟩; clear Df Dg Dh Di; have hHeld : w9.cell? ⟨gU, 0, none⟩ = some (.int .i64 au) ∧ w9.cell? ⟨gU, 1, none⟩ = some (.slice aZ ah.length aW) := EW; refine ZC ?_; refine Ke (i := 2) (j := 7) (Ni := some 9) (Nj := some 3) #[true, true, true, true, true, true, false, false, false] #[true, true, false, true, true, true, false, true, false] rfl rfl rfl rfl (wB qd.out (by kernel_rfl)) (by decide) (by decide) (fun K hK => ?_) (fun K hK => ?_)
                 · refine Kd.qc (Kd.int .u64) _ 76 (by rfl) (N := 9) rfl 78 _ _ rfl au rfl rfl Tryd.underlying78 (.int .u64 0) 8 CR rfl (by decide) (by omega) 0 (ok := fun _ => True) (tX := fun _ => True) rfl (fun _ hk => hk) trivial zo (Nat.le_trans (Nat.mul_le_mul_right _ (zo : au.toNat ≤ 35184372088832)) (by omega)) (Below.refl _ _) (Nat.le_refl _) ?_; intro v138 yu Ht hb Ac lS; clear Ac lS; (first | rw [← I7.out] at Ht | (simp only [Int.reduceToNat] at Ht; rw [← I7.out] at Ht)); have nS := zA (Kd.dw (Kd.gz Ht (Kd.kP (zR nT))) (aJ (zB HB))); replace nT := zA (Kd.dQ (zR nT) (Kd.fe Ht) hb); replace dP := zA (dn dP hb); replace fE := zA (dn fE hb); replace HB := zA (af (zB HB) hb); clear hb Ht; obtain ⟨rY, rZ, ⟨⟩⟩ := Ce (Kd.bD nT.out); obtain ⟨Hu, Hw, ⟨⟩⟩ := Ce (Kd.bD nS.out); refine hK.out _ _ ⟨(ai dP.out 0).trans rfl, (ai dP.out 1).trans rfl⟩ (fun hHeld => ?_); clear hK K; refine qp 9 ?_; refine zp 6 ?_; exact Jm (agi (.slice Hu vS.length Hw, .slice rY wZ.length rZ) _ ⟨hHeld, (by refine jF ?_; exact Kd.aQ nS.out (fun _ hk => hk.2)), (by refine jF ?_; exact Kd.aQ nT.out (fun _ hk => hk.2)), (zK dP), (zK fE), (zB HB)⟩)
                 · refine pK ?hg (N := 3) ?hd (cs := #[.int .u64 0, .slice none 0 0, .slice none 0 0]) (t := 80) ?hr ?_; (case hd => rfl); (case hg => rfl); (case hr => first | (go_simp; done) | (go_simp; rfl)); intro gM hg yu aG hb; have gD := zA (aG); have yw := zA (zW hg HB); have yx := zA (zW hg HB); have fQ := zA (lZ hg dP); have jr := zA (l5 hg dP); have ja := zA (lZ hg fE); have jS := zA (l5 hg fE); replace nT := zA (Kd.bf (zR nT) hb); replace dP := zA (dn dP hb); replace fE := zA (dn fE hb); replace HB := zA (af (zB HB) hb); clear hb aG hg; refine hK.out _ _ ⟨(ai dP.out 0).trans rfl, (ai dP.out 1).trans rfl⟩ (fun hHeld => ?_); clear hK K; refine qp 3 ?_; exact Jm (agk (v141, gM) _ ⟨hHeld, (zR nT), (zK dP), (zK fE), (zK gD), yw.out, yx.out, fQ.out, jr.out, ja.out, jS.out, (zB HB)⟩)
             · rintro v138 w9 ⟨EW, Df, Dg, Dh, Di⟩; have nS : ag (Kd.R (Kd.int .u64) 76 w9 w.heap.size (fun _ => True) v138 vS) := ⟨Df⟩; replace dP : ag (w9.heap[gU]? = some (.cells #[.int .i64 au, .slice aZ ah.length aW] 24 (0, 0))) := ⟨Dg⟩; replace fE : ag (w9.heap[kZ]? = some (.cells #[.int .u64 0, .slice none 0 0, .slice none 0 0] 80 (0, 0))) := ⟨Dh⟩; replace HB : ag (Below w.heap.size w w9) := ⟨Di⟩; clear Df Dg Dh Di; have hHeld : w9.cell? ⟨gU, 0, none⟩ = some (.int .i64 au) ∧ w9.cell? ⟨gU, 1, none⟩ = some (.slice aZ ah.length aW) := EW; refine ZC ?_; refine Ke (i := 5) (j := 7) (Ni := some 12) (Nj := some 3) #[true, true, true, true, true, true, false, false, false] #[true, true, true, true, true, false, false, true, false] rfl rfl rfl rfl (wB qd.out (by kernel_rfl)) (by decide) (by decide) (fun K hK => ?_) (fun K hK => ?_)
               · refine Kd.qc (Kd.int .u64) _ 76 (by rfl) (N := 12) rfl 78 _ _ rfl au rfl rfl Tryd.underlying78 (.int .u64 0) 8 CR rfl (by decide) (by omega) 0 (ok := fun _ => True) (tX := fun _ => True) rfl (fun _ hk => hk) trivial zo (Nat.le_trans (Nat.mul_le_mul_right _ (zo : au.toNat ≤ 35184372088832)) (by omega)) (Below.refl _ _) (Nat.le_refl _) ?_; intro v141 yu Ht hb Ac lS; clear Ac lS; (first | rw [← I8.out] at Ht | (simp only [Int.reduceToNat] at Ht; rw [← I8.out] at Ht)); have nT := zA (Kd.dw (Kd.gz Ht (Kd.kP (zR nS))) (aJ (zB HB))); replace nS := zA (Kd.dQ (zR nS) (Kd.fe Ht) hb); replace dP := zA (dn dP hb); replace fE := zA (dn fE hb); replace HB := zA (af (zB HB) hb); clear hb Ht; obtain ⟨rY, rZ, ⟨⟩⟩ := Ce (Kd.bD nT.out); obtain ⟨Hu, Hw, ⟨⟩⟩ := Ce (Kd.bD nS.out); refine hK.out _ _ ⟨(ai dP.out 0).trans rfl, (ai dP.out 1).trans rfl⟩ (fun hHeld => ?_); clear hK K; refine qp 12 ?_; refine zp 6 ?_; exact Jm (agi (.slice Hu vS.length Hw, .slice rY wZ.length rZ) _ ⟨hHeld, (by refine jF ?_; exact Kd.aQ nS.out (fun _ hk => hk.2)), (by refine jF ?_; exact Kd.aQ nT.out (fun _ hk => hk.2)), (zK dP), (zK fE), (zB HB)⟩)
               · refine pK ?hg (N := 3) ?hd (cs := #[.int .u64 0, .slice none 0 0, .slice none 0 0]) (t := 80) ?hr ?_; (case hd => rfl); (case hg => rfl); (case hr => first | (go_simp; done) | (go_simp; rfl)); intro gM hg yu aG hb; have gD := zA (aG); have yw := zA (zW hg HB); have yx := zA (zW hg HB); have fQ := zA (lZ hg dP); have jr := zA (l5 hg dP); have ja := zA (lZ hg fE); have jS := zA (l5 hg fE); replace nS := zA (Kd.bf (zR nS) hb); replace dP := zA (dn dP hb); replace fE := zA (dn fE hb); replace HB := zA (af (zB HB) hb); clear hb aG hg; refine hK.out _ _ ⟨(ai dP.out 0).trans rfl, (ai dP.out 1).trans rfl⟩ (fun hHeld => ?_); clear hK K; refine qp 3 ?_; exact Jm (agj (v138, gM) _ ⟨hHeld, (zR nS), (zK dP), (zK fE), (zK gD), yw.out, yx.out, fQ.out, jr.out, ja.out, jS.out, (zB HB)⟩)
           · rintro ⟨v141, gM⟩ yu ⟨EW, Df, Dg, Dh, Di, KL, M7, M8, M9, Na, Q0, Fp⟩; have nT : ag (Kd.R (Kd.int .u64) 76 yu w.heap.size (fun _ => True) v141 wZ) := ⟨Df⟩; have gD : ag (yu.heap[gM]? = some (.cells #[.int .u64 0, .slice none 0 0, .slice none 0 0] 80 (0, 0))) := ⟨Di⟩; have yw : ag (w.heap.size ≤ gM) := ⟨KL⟩; have yx : ag (w.heap.size ≤ gM) := ⟨M7⟩; have fQ : ag (gU ≠ gM) := ⟨M8⟩; have jr : ag (gM ≠ gU) := ⟨M9⟩; have ja : ag (kZ ≠ gM) := ⟨Na⟩; have jS : ag (gM ≠ kZ) := ⟨Q0⟩; replace dP : ag (yu.heap[gU]? = some (.cells #[.int .i64 au, .slice aZ ah.length aW] 24 (0, 0))) := ⟨Dg⟩; replace fE : ag (yu.heap[kZ]? = some (.cells #[.int .u64 0, .slice none 0 0, .slice none 0 0] 80 (0, 0))) := ⟨Dh⟩; replace HB : ag (Below w.heap.size w yu) := ⟨Fp⟩; clear Df Dg Dh Di KL M7 M8 M9 Na Q0 Fp; have hHeld : yu.cell? ⟨gU, 0, none⟩ = some (.int .i64 au) ∧ yu.cell? ⟨gU, 1, none⟩ = some (.slice aZ ah.length aW) := EW; refine ZC ?_; refine wU 2 (fun K hK => ?_); refine Kd.qc (Kd.int .u64) _ 76 (by rfl) (N := 9) rfl 78 _ _ rfl au rfl rfl Tryd.underlying78 (.int .u64 0) 8 CR rfl (by decide) (by omega) 0 (ok := fun _ => True) (tX := fun _ => True) rfl (fun _ hk => hk) trivial zo (Nat.le_trans (Nat.mul_le_mul_right _ (zo : au.toNat ≤ 35184372088832)) (by omega)) (Below.refl _ _) (Nat.le_refl _) ?_; intro v138 QE Hy hb Ac lS; clear Ac lS; (first | rw [← I7.out] at Hy | (simp only [Int.reduceToNat] at Hy; rw [← I7.out] at Hy)); have nS := zA (Kd.dw (Kd.gz Hy (Kd.kP (zR nT))) (aJ (zB HB))); replace nT := zA (Kd.dQ (zR nT) (Kd.fe Hy) hb); replace dP := zA (dn dP hb); replace fE := zA (dn fE hb); replace gD := zA (dn gD hb); replace HB := zA (af (zB HB) hb); clear hb Hy; obtain ⟨Hu, Hw, ⟨⟩⟩ := Ce (Kd.bD nT.out); obtain ⟨ql, oL, ⟨⟩⟩ := Ce (Kd.bD nS.out); refine hK.out _ _ ⟨(ai dP.out 0).trans rfl, (ai dP.out 1).trans rfl⟩ (fun hHeld => ?_); clear hK K; refine qp 9 ?_; refine zp 6 ?_; exact Jm (Ox (.slice ql vS.length oL, .slice Hu wZ.length Hw, gM) _ ⟨hHeld, (by refine jF ?_; exact Kd.aQ nS.out (fun _ hk => hk.2)), (by refine jF ?_; exact Kd.aQ nT.out (fun _ hk => hk.2)), (zK dP), (zK fE), (zK gD), yw.out, yx.out, fQ.out, jr.out, ja.out, jS.out, (zB HB)⟩)
         · rintro ⟨v138, gM⟩ yu ⟨EW, Df, Dg, Dh, Di, KL, M7, M8, M9, Na, Q0, Fp⟩; have nS : ag (Kd.R (Kd.int .u64) 76 yu w.heap.size (fun _ => True) v138 vS) := ⟨Df⟩; have gD : ag (yu.heap[gM]? = some (.cells #[.int .u64 0, .slice none 0 0, .slice none 0 0] 80 (0, 0))) := ⟨Di⟩; have yw : ag (w.heap.size ≤ gM) := ⟨KL⟩; have yx : ag (w.heap.size ≤ gM) := ⟨M7⟩; have fQ : ag (gU ≠ gM) := ⟨M8⟩; have jr : ag (gM ≠ gU) := ⟨M9⟩; have ja : ag (kZ ≠ gM) := ⟨Na⟩; have jS : ag (gM ≠ kZ) := ⟨Q0⟩; replace dP : ag (yu.heap[gU]? = some (.cells #[.int .i64 au, .slice aZ ah.length aW] 24 (0, 0))) := ⟨Dg⟩; replace fE : ag (yu.heap[kZ]? = some (.cells #[.int .u64 0, .slice none 0 0, .slice none 0 0] 80 (0, 0))) := ⟨Dh⟩; replace HB : ag (Below w.heap.size w yu) := ⟨Fp⟩; clear Df Dg Dh Di KL M7 M8 M9 Na Q0 Fp; have hHeld : yu.cell? ⟨gU, 0, none⟩ = some (.int .i64 au) ∧ yu.cell? ⟨gU, 1, none⟩ = some (.slice aZ ah.length aW) := EW; refine ZC ?_; refine wU 5 (fun K hK => ?_); refine Kd.qc (Kd.int .u64) _ 76 (by rfl) (N := 12) rfl 78 _ _ rfl au rfl rfl Tryd.underlying78 (.int .u64 0) 8 CR rfl (by decide) (by omega) 0 (ok := fun _ => True) (tX := fun _ => True) rfl (fun _ hk => hk) trivial zo (Nat.le_trans (Nat.mul_le_mul_right _ (zo : au.toNat ≤ 35184372088832)) (by omega)) (Below.refl _ _) (Nat.le_refl _) ?_; intro v141 QE Hy hb Ac lS; clear Ac lS; (first | rw [← I8.out] at Hy | (simp only [Int.reduceToNat] at Hy; rw [← I8.out] at Hy)); have nT := zA (Kd.dw (Kd.gz Hy (Kd.kP (zR nS))) (aJ (zB HB))); replace nS := zA (Kd.dQ (zR nS) (Kd.fe Hy) hb); replace dP := zA (dn dP hb); replace fE := zA (dn fE hb); replace gD := zA (dn gD hb); replace HB := zA (af (zB HB) hb); clear hb Hy; obtain ⟨Hu, Hw, ⟨⟩⟩ := Ce (Kd.bD nT.out); obtain ⟨ql, oL, ⟨⟩⟩ := Ce (Kd.bD nS.out); refine hK.out _ _ ⟨(ai dP.out 0).trans rfl, (ai dP.out 1).trans rfl⟩ (fun hHeld => ?_); clear hK K; refine qp 12 ?_; refine zp 6 ?_; exact Jm (Ox (.slice ql vS.length oL, .slice Hu wZ.length Hw, gM) _ ⟨hHeld, (by refine jF ?_; exact Kd.aQ nS.out (fun _ hk => hk.2)), (by refine jF ?_; exact Kd.aQ nT.out (fun _ hk => hk.2)), (zK dP), (zK fE), (zK gD), yw.out, yx.out, fQ.out, jr.out, ja.out, jS.out, (zB HB)⟩)
       · rintro ⟨v138, v141⟩ Tw ⟨EW, Df, Dg, Dh, Di, KL⟩; have nS : ag (Kd.R (Kd.int .u64) 76 Tw w.heap.size (fun k_ => some k_ ≠ (v141 : Value).ownBlock) v138 vS) := ⟨Df⟩; have nT : ag (Kd.R (Kd.int .u64) 76 Tw w.heap.size (fun k_ => some k_ ≠ (v138 : Value).ownBlock) v141 wZ) := ⟨Dg⟩; replace dP : ag (Tw.heap[gU]? = some (.cells #[.int .i64 au, .slice aZ ah.length aW] 24 (0, 0))) := ⟨Dh⟩; replace fE : ag (Tw.heap[kZ]? = some (.cells #[.int .u64 0, .slice none 0 0, .slice none 0 0] 80 (0, 0))) := ⟨Di⟩; replace HB : ag (Below w.heap.size w Tw) := ⟨KL⟩; clear Df Dg Dh Di KL; have hHeld : Tw.cell? ⟨gU, 0, none⟩ = some (.int .i64 au) ∧ Tw.cell? ⟨gU, 1, none⟩ = some (.slice aZ ah.length aW) := EW; obtain ⟨ql, oL, ⟨⟩⟩ := Ce (Kd.bD nT.out); obtain ⟨Dj, Ct, ⟨⟩⟩ := Ce (Kd.bD nS.out); refine ZC ?_; refine wU 7 (fun K hK => ?_); refine pK ?hg (N := 3) ?hd (cs := #[.int .u64 0, .slice none 0 0, .slice none 0 0]) (t := 80) ?hr ?_; (case hd => rfl); (case hg => rfl); (case hr => first | (go_simp; done) | (go_simp; rfl)); intro gM hg w16 aG hb; have gD := zA (aG); have yw := zA (zW hg HB); have yx := zA (zW hg HB); have fQ := zA (lZ hg dP); have jr := zA (l5 hg dP); have ja := zA (lZ hg fE); have jS := zA (l5 hg fE); replace nS := zA (Kd.bf (zR nS) hb); replace nT := zA (Kd.bf (zR nT) hb); replace dP := zA (dn dP hb); replace fE := zA (dn fE hb); replace HB := zA (af (zB HB) hb); clear hb aG hg; refine hK.out _ _ ⟨(ai dP.out 0).trans rfl, (ai dP.out 1).trans rfl⟩ (fun hHeld => ?_); clear hK K; refine qp 3 ?_; exact Jm (Ox (.slice Dj vS.length Ct, .slice ql wZ.length oL, gM) _ ⟨hHeld, (zR nS), (zR nT), (zK dP), (zK fE), (zK gD), yw.out, yx.out, fQ.out, jr.out, ja.out, jS.out, (zB HB)⟩)
     rintro ⟨v138, v141, gM⟩ JF ⟨EW, Df, Dg, Dh, Di, KL, M7, M8, M9, Na, Q0, Fp, Q4⟩; have nS : ag (Kd.R (Kd.int .u64) 76 JF w.heap.size (fun k_ => some k_ ≠ (v141 : Value).ownBlock) v138 vS) := ⟨Df⟩; have nT : ag (Kd.R (Kd.int .u64) 76 JF w.heap.size (fun k_ => some k_ ≠ (v138 : Value).ownBlock) v141 wZ) := ⟨Dg⟩; have gD : ag (JF.heap[gM]? = some (.cells #[.int .u64 0, .slice none 0 0, .slice none 0 0] 80 (0, 0))) := ⟨KL⟩; have yw : ag (w.heap.size ≤ gM) := ⟨M7⟩; have yx : ag (w.heap.size ≤ gM) := ⟨M8⟩; have fQ : ag (gU ≠ gM) := ⟨M9⟩; have jr : ag (gM ≠ gU) := ⟨Na⟩; have ja : ag (kZ ≠ gM) := ⟨Q0⟩; have jS : ag (gM ≠ kZ) := ⟨Fp⟩; replace dP : ag (JF.heap[gU]? = some (.cells #[.int .i64 au, .slice aZ ah.length aW] 24 (0, 0))) := ⟨Dh⟩; replace fE : ag (JF.heap[kZ]? = some (.cells #[.int .u64 0, .slice none 0 0, .slice none 0 0] 80 (0, 0))) := ⟨Di⟩; replace HB : ag (Below w.heap.size w JF) := ⟨Q4⟩; clear Df Dg Dh Di KL M7 M8 M9 Na Q0 Fp Q4; have hHeld : JF.cell? ⟨gU, 0, none⟩ = some (.int .i64 au) ∧ JF.cell? ⟨gU, 1, none⟩ = some (.slice aZ ah.length aW) := EW; obtain ⟨Dj, Ct, ⟨⟩⟩ := Ce (Kd.bD nT.out); obtain ⟨xe, qm, ⟨⟩⟩ := Ce (Kd.bD nS.out); refine ZC ?_; refine wU 8 (fun K hK => ?_); have aBC := zc gD 0; have ayh := bU gD.out 0; have asl := fQ.out; have asn := ja.out; have aso := jr.out; have asq := jS.out; have at5 := zc gD 1; have an3 := bU gD.out 1; have aen := fQ.out; have aeo := ja.out; have aep := jr.out; have aeq := jS.out; have at6 := zc gD 2; have an4 := bU gD.out 2; have aer := fQ.out; have aes := ja.out; have aet := jr.out; have aeu := jS.out; refine IU (w1 := ?_) (by rfl) rfl ?_ ?_; rotate_left; · go_simp; rfl
     refine hK.out _ _ ⟨((cell_far (p := ⟨gM, _, none⟩) fQ.out _).trans (((cell_far (p := ⟨gM, _, none⟩) fQ.out _).trans (((cell_far (p := ⟨gM, _, none⟩) fQ.out _).trans (hHeld.1)))))), ((cell_far (p := ⟨gM, _, none⟩) fQ.out _).trans (((cell_far (p := ⟨gM, _, none⟩) fQ.out _).trans (((cell_far (p := ⟨gM, _, none⟩) fQ.out _).trans (hHeld.2))))))⟩ (fun hHeld => ?_); clear hK K; refine lK (iZ qd.out (by kernel_rfl)) ?_; have agl := Hq.out; have agm := Hr.out; have VX := fQ.out; have VY := jr.out; obtain ⟨_, _, _, _⟩ := iG dP; try go_wp2
     go_loopg [16] k (fun kq v16 w' => ∃ (KM : Int) (jT : Int), v16 = .int .i64 KM ∧ ag (bF.l0 kq au KM au ah jT vS wZ = some (r1, r2, r3)) ∧ ag (kq ≤ k) ∧ ag (Kd.R (Kd.int .u64) 76 w' w.heap.size (fun k_ => some k_ ≠ ((.slice Dj wZ.length Ct) : Value).ownBlock) (.slice xe vS.length qm) vS) ∧ ag (Kd.R (Kd.int .u64) 76 w' w.heap.size (fun k_ => some k_ ≠ ((.slice xe vS.length qm) : Value).ownBlock) (.slice Dj wZ.length Ct) wZ) ∧ ag (w'.heap[gU]? = some (.cells #[.int .i64 au, (.slice aZ ah.length aW)] 24 (0, 0))) ∧ ag (w'.heap[kZ]? = some (.cells #[.int .u64 0, (.slice none 0 0), (.slice none 0 0)] 80 (0, 0))) ∧ ag (w'.heap[gM]? = some (.cells #[.int .u64 jT, (.slice xe vS.length qm), (.slice Dj wZ.length Ct)] 80 (0, 0))) ∧ ag (Below w.heap.size w w'))
     case atStart => exact ⟨(0), (0), zv, H', ⟨Nat.le_refl _⟩, ⟨by refine jF ?_; exact Kd.aQ (Kd.aT (p := ⟨gM, 2, none⟩) (Kd.aT (p := ⟨gM, 1, none⟩) (Kd.aT (p := ⟨gM, 0, none⟩) (Kd.bJ nS.out gD.out (by decide)) (fun _ hk => hk.2) (.int .u64 0)) (fun _ hk => hk.2) (.slice xe vS.length qm)) (fun _ hk => hk.2) (.slice Dj wZ.length Ct)) (fun _ hk => hk.1)⟩, ⟨by refine jF ?_; exact Kd.aQ (Kd.aT (p := ⟨gM, 2, none⟩) (Kd.aT (p := ⟨gM, 1, none⟩) (Kd.aT (p := ⟨gM, 0, none⟩) (Kd.bJ nT.out gD.out (by decide)) (fun _ hk => hk.2) (.int .u64 0)) (fun _ hk => hk.2) (.slice xe vS.length qm)) (fun _ hk => hk.2) (.slice Dj wZ.length Ct)) (fun _ hk => hk.1)⟩, ⟨by refine iA fQ.out ?_; refine iA fQ.out ?_; refine iA fQ.out ?_; refine zk ?_; exact dP.out⟩, ⟨by refine iA ja.out ?_; refine iA ja.out ?_; refine iA ja.out ?_; refine zk ?_; exact fE.out⟩, ⟨by refine zk ?_; refine aV (cs := #[.int .u64 0, .slice xe vS.length qm, .slice none 0 0]) ?_ 2 _ rfl; refine zk ?_; refine aV (cs := #[.int .u64 0, .slice none 0 0, .slice none 0 0]) ?_ 1 _ rfl; refine zk ?_; refine aV (cs := #[.int .u64 0, .slice none 0 0, .slice none 0 0]) ?_ 0 _ rfl; refine zk ?_; exact gD.out⟩, ⟨zB HB⟩⟩
     case round =>
      clear H'
      obtain ⟨KM, jT, rfl, HA, iU, gQ, ic, dP, fE, gD, HB⟩ := hrel; cases gk with
      | zero => exact absurd HA.out (by simp [bF.l0])
      | succ k1 =>
       have H := HA.out; clear HA; simp only [bF.l0] at H; by_cases c23 : KM < au
       · rw [if_pos c23] at H; have agn := decide_eq_true c23; clear c23; replace H := zE H; obtain ⟨t144, A24, H⟩ := H; (try dsimp only at H); have H' := zA H; clear H; have agp := jr.out; have agq := fQ.out; have Wl := jS.out; have Wm := ja.out; obtain ⟨_, _, _, _, _, _⟩ := nG gD; go_wp2_with (first | ((with_reducible refine ay (f := 51) rfl ?_); refine zG (some 22) rfl Tryd.func51 #[.int .u64 jT, .int .i64 KM] ?_; (with_reducible refine (fM.calls jT KM t144 _ A24.out).mono ?_); rintro e w' ⟨rfl, ⟨nd, rfl⟩⟩; refine ⟨_, rfl, ?_⟩)); go_roundg k1
         case measure => have := iU.out; omega
         case rel => exact ⟨(wrap64 (KM + 1)), (t144), zv, H', ⟨by have := iU.out; omega⟩, ⟨by refine jF ?_; exact Kd.aQ (Kd.aT (p := ⟨gM, 0, none⟩) (Kd.bJ gQ.out gD.out (by decide)) (fun _ hk => hk.2) (.int .u64 t144)) (fun _ hk => hk.1)⟩, ⟨by refine jF ?_; exact Kd.aQ (Kd.aT (p := ⟨gM, 0, none⟩) (Kd.bJ ic.out gD.out (by decide)) (fun _ hk => hk.2) (.int .u64 t144)) (fun _ hk => hk.1)⟩, ⟨by refine iA fQ.out ?_; refine zk ?_; exact dP.out⟩, ⟨by refine iA ja.out ?_; refine zk ?_; exact fE.out⟩, ⟨by refine zk ?_; refine aV (cs := #[.int .u64 jT, .slice xe vS.length qm, .slice Dj wZ.length Ct]) ?_ 0 _ rfl; refine zk ?_; exact gD.out⟩, ⟨zB HB⟩⟩
       · rw [if_neg c23] at H; have agn := decide_eq_false c23; clear c23; have H' := zA H; clear H; have an6 := Hq.out; have an7 := Hr.out; have QG := fQ.out; have QH := jr.out; obtain ⟨_, _, _, _⟩ := iG dP; go_wp2; go_loopg [28] k1 (fun kq v28 w' => ∃ (eT : Int) (jb : List Int) (jH : List Int) (Bt : Value) (qK : Value), v28 = .int .i64 eT ∧ ag (bF.l1 kq ah (ah.length : Int) eT jT jb jH = some (r1, r2, r3)) ∧ ag (kq ≤ k1) ∧ ag (Kd.R (Kd.int .u64) 76 w' w.heap.size (fun k_ => some k_ ≠ (qK : Value).ownBlock) Bt jb) ∧ ag (Kd.R (Kd.int .u64) 76 w' w.heap.size (fun k_ => some k_ ≠ (Bt : Value).ownBlock) qK jH) ∧ ag (w'.heap[gU]? = some (.cells #[.int .i64 au, (.slice aZ ah.length aW)] 24 (0, 0))) ∧ ag (w'.heap[kZ]? = some (.cells #[.int .u64 0, (.slice none 0 0), (.slice none 0 0)] 80 (0, 0))) ∧ ag (w'.heap[gM]? = some (.cells #[.int .u64 jT, Bt, qK] 80 (0, 0))) ∧ ag (Below w.heap.size w w'))
         case atStart => exact ⟨(0), (vS), (wZ), (.slice xe vS.length qm), (.slice Dj wZ.length Ct), zv, H', ⟨Nat.le_refl _⟩, ⟨zR gQ⟩, ⟨zR ic⟩, ⟨zK dP⟩, ⟨zK fE⟩, ⟨zK gD⟩, ⟨zB HB⟩⟩
         case round =>
          clear H'
          obtain ⟨eT, jb, jH, Bt, qK, rfl, HA, mo, gQ, ic, dP, fE, gD, HB⟩ := hrel; cases gk with
          | zero => exact absurd HA.out (by simp [bF.l1])
          | succ k2 =>
           have H := HA.out; clear HA; simp only [bF.l1] at H; by_cases c31 : eT < (ah.length : Int)
           · rw [if_pos c31] at H; have Nb := decide_eq_true c31; clear c31; by_cases c32 : 0 ≤ eT
             · rw [if_pos c32] at H; have Q5 := decide_eq_true c32; clear c32; by_cases Cj : eT < (ah.length : Int)
               · rw [if_pos Cj] at H; have I9 := decide_eq_true Cj; clear Cj; by_cases c34 : 0 ≤ ((aa ah eT).f1)
                 · rw [if_pos c34] at H; have KD := decide_eq_true c34; clear c34; by_cases Fa : ((aa ah eT).f1) < (jb.length : Int)
                   · rw [if_pos Fa] at H; have an8 := decide_eq_true Fa; clear Fa; replace H := zE H; obtain ⟨t148, A36, H⟩ := H; (try dsimp only at H); obtain ⟨aa4, Q6⟩ : ∃ y_ : List Int, y_ = (jb.set (((aa ah eT).f1) : Int).toNat t148) := ⟨_, rfl⟩; replace H : (if 0 ≤ ((aa ah eT).f0) then (if ((aa ah eT).f0) < (jH.length : Int) then ((fM.f (rd jH ((aa ah eT).f0)) ((aa ah eT).f1)).bind fun t151 => (bF.l1 k2 ah (ah.length : Int) (wrap64 (eT + 1)) jT aa4 (jH.set (((aa ah eT).f0) : Int).toNat t151))) else (none)) else (none)) = some (r1, r2, r3) := by first | (rw [Q6]; with_reducible exact H) | (have iW := (Option.bind_some _ _).symm.trans H; rw [Q6]; with_reducible exact iW) | (have iW := (Option.bind_some _ _).symm.trans H; with_reducible exact iW) | with_reducible exact H | (rw [Q6]; exact H) | exact H
                     have an9 := zA Q6; clear Q6; by_cases Oy : 0 ≤ ((aa ah eT).f0)
                     · rw [if_pos Oy] at H; have Wn := decide_eq_true Oy; clear Oy; by_cases Ty : ((aa ah eT).f0) < (jH.length : Int)
                       · rw [if_pos Ty] at H; have agr := decide_eq_true Ty; clear Ty; replace H := zE H; obtain ⟨t151, YV, H⟩ := H; (try dsimp only at H); obtain ⟨y152, hy152⟩ : ∃ y_ : List Int, y_ = (jH.set (((aa ah eT).f0) : Int).toNat t151) := ⟨_, rfl⟩; replace H : (bF.l1 k2 ah (ah.length : Int) (wrap64 (eT + 1)) jT aa4 y152) = some (r1, r2, r3) := by first | (rw [hy152]; with_reducible exact H) | (have iW := (Option.bind_some _ _).symm.trans H; rw [hy152]; with_reducible exact iW) | (have iW := (Option.bind_some _ _).symm.trans H; with_reducible exact iW) | with_reducible exact H | (rw [hy152]; exact H) | exact H
                         have aoa := zA hy152; clear hy152; have H' := zA H; clear H; have ajq : 0 ≤ (eT : Int) := zo; have ajr : eT < (ah.length : Int) := zo; obtain ⟨aa5, aua, Wo, Wp⟩ := eG cz.out eT ajq ajr; cases aua; replace Wo := (zx HB Wo :); replace Wp := (zx HB Wp :); replace ajq := eq_true ajq; replace ajr := eq_true ajr; try go_wp2_with (first | ((with_reducible refine aH (N := 6) rfl ?_); refine zX (N := 6) (cs := #[.int .i64 0, .int .i64 0]) (t := 42) ?_; intro pR hg Ul aG hb; have qL := zA (aG); have ayi := zA (zW hg HB); have ayj := zA (zW hg HB); have Hz := zA (lZ hg dP); have Y2 := zA (l5 hg dP); have H6 := zA (lZ hg fE); have Y3 := zA (l5 hg fE); have H7 := zA (lZ hg gD); have Y4 := zA (l5 hg gD); replace gQ := zA (Kd.bf (zR gQ) hb); replace ic := zA (Kd.bf (zR ic) hb); replace dP := zA (dn dP hb); replace fE := zA (dn fE hb); replace gD := zA (dn gD hb); replace HB := zA (af (zB HB) hb); clear hb aG hg; have Wq := Y2.out; have Ws := Hz.out; have anC := Y3.out; have anD := H6.out; have af4 := Y4.out; have af5 := H7.out; obtain ⟨_, _, _, _⟩ := iG qL))
                         have n0_ : ag (Kd.R (Kd.int .u64) 76 ((Ul.setCell ⟨pR, 0, none⟩ (.int .i64 ((aa ah eT).f0))).setCell ⟨pR, 1, none⟩ (.int .i64 ((aa ah eT).f1))) w.heap.size (fun k_ => some k_ ≠ (qK : Value).ownBlock) Bt jb) := ⟨by refine jF ?_; exact Kd.aQ (Kd.aT (p := ⟨pR, 1, none⟩) (Kd.aT (p := ⟨pR, 0, none⟩) (Kd.bJ gQ.out qL.out (by decide)) (fun _ hk => hk.2) (.int .i64 ((aa ah eT).f0))) (fun _ hk => hk.2) (.int .i64 ((aa ah eT).f1))) (fun _ hk => hk.1)⟩; have n1_ : ag (Kd.R (Kd.int .u64) 76 ((Ul.setCell ⟨pR, 0, none⟩ (.int .i64 ((aa ah eT).f0))).setCell ⟨pR, 1, none⟩ (.int .i64 ((aa ah eT).f1))) w.heap.size (fun k_ => some k_ ≠ (Bt : Value).ownBlock) qK jH) := ⟨by refine jF ?_; exact Kd.aQ (Kd.aT (p := ⟨pR, 1, none⟩) (Kd.aT (p := ⟨pR, 0, none⟩) (Kd.bJ ic.out qL.out (by decide)) (fun _ hk => hk.2) (.int .i64 ((aa ah eT).f0))) (fun _ hk => hk.2) (.int .i64 ((aa ah eT).f1))) (fun _ hk => hk.1)⟩; have n2_ : ag (((Ul.setCell ⟨pR, 0, none⟩ (.int .i64 ((aa ah eT).f0))).setCell ⟨pR, 1, none⟩ (.int .i64 ((aa ah eT).f1))).heap[gU]? = some (.cells #[.int .i64 au, .slice (some aa5) ah.length aW] 24 (0, 0))) := ⟨by refine iA Hz.out ?_; refine iA Hz.out ?_; refine zk ?_; exact dP.out⟩; have n3_ : ag (((Ul.setCell ⟨pR, 0, none⟩ (.int .i64 ((aa ah eT).f0))).setCell ⟨pR, 1, none⟩ (.int .i64 ((aa ah eT).f1))).heap[kZ]? = some (.cells #[.int .u64 0, .slice none 0 0, .slice none 0 0] 80 (0, 0))) := ⟨by refine iA H6.out ?_; refine iA H6.out ?_; refine zk ?_; exact fE.out⟩; have n4_ : ag (((Ul.setCell ⟨pR, 0, none⟩ (.int .i64 ((aa ah eT).f0))).setCell ⟨pR, 1, none⟩ (.int .i64 ((aa ah eT).f1))).heap[gM]? = some (.cells #[.int .u64 jT, Bt, qK] 80 (0, 0))) := ⟨by refine iA H7.out ?_; refine iA H7.out ?_; refine zk ?_; exact gD.out⟩; have n5_ : ag (((Ul.setCell ⟨pR, 0, none⟩ (.int .i64 ((aa ah eT).f0))).setCell ⟨pR, 1, none⟩ (.int .i64 ((aa ah eT).f1))).heap[pR]? = some (.cells #[.int .i64 ((aa ah eT).f0), .int .i64 ((aa ah eT).f1)] 42 (0, 0))) := ⟨by refine zk ?_; refine aV (cs := #[.int .i64 ((aa ah eT).f0), .int .i64 0]) ?_ 1 _ rfl; refine zk ?_; refine aV (cs := #[.int .i64 0, .int .i64 0]) ?_ 0 _ rfl; refine zk ?_; exact qL.out⟩; have n6_ : ag (Below w.heap.size w ((Ul.setCell ⟨pR, 0, none⟩ (.int .i64 ((aa ah eT).f0))).setCell ⟨pR, 1, none⟩ (.int .i64 ((aa ah eT).f1)))) := ⟨zB HB⟩; (try rw [show ∀ (W_ : World) (n_ : Nat) (a_ : Addr) (v_ : Value), (W_.drewN n_).setCell a_ v_ = (W_.setCell a_ v_).drewN n_ from fun _ _ _ _ => rfl]); generalize ((Ul.setCell ⟨pR, 0, none⟩ (.int .i64 ((aa ah eT).f0))).setCell ⟨pR, 1, none⟩ (.int .i64 ((aa ah eT).f1))) = w47 at n0_ n1_ n2_ n3_ n4_ n5_ n6_ ⊢; have gQ := n0_; have ic := n1_; have dP := n2_; have fE := n3_; have gD := n4_; have qL := n5_; have HB := n6_; clear n0_ n1_ n2_ n3_ n4_ n5_ n6_; replace gQ := zA (Kd.nL gQ.out); replace ic := zA (Kd.nL ic.out); replace dP := zA (bO dP.out); replace fE := zA (bO fE.out); replace gD := zA (bO gD.out); replace qL := zA (bO qL.out); replace HB := zA (bn HB.out); obtain ⟨ajz, Js, ⟨⟩⟩ := Ce (Kd.bD gQ.out); have ajA : 0 ≤ (((aa ah eT).f1) : Int) := zo; have ajB : ((aa ah eT).f1) < (jb.length : Int) := zo; obtain ⟨ags, aub, Oz⟩ := Kd.eP (Kd.aU gQ.out).2.2 ((aa ah eT).f1) ajA ajB; cases aub; replace ajA := eq_true ajA; replace ajB := eq_true ajB; refine EJ (n := 15) (S := fun w' => w'.cell? ⟨gM, 0, none⟩ = some (.int .u64 jT) ∧ w'.cell? ⟨gM, 1, none⟩ = some (.slice (some ags) jb.length Js) ∧ w'.cell? ⟨gM, 2, none⟩ = some (qK) ∧ w'.cell? ⟨pR, 0, none⟩ = some (.int .i64 ((aa ah eT).f0)) ∧ w'.cell? ⟨pR, 1, none⟩ = some (.int .i64 ((aa ah eT).f1)) ∧ w'.cell? (ags.add (((aa ah eT).f1)).toNat) = some (.int .u64 (rd jb ((aa ah eT).f1)))) (ds := [14]) bF.an1 bF.ajo ⟨(ai gD.out 0).trans rfl, (ai gD.out 1).trans rfl, (ai gD.out 2).trans rfl, (ai qL.out 0).trans rfl, (ai qL.out 1).trans rfl, Oz⟩ (fun hHeld qd DY => ?_); generalize w47.drew = w48 at gQ ic dP fE gD qL HB Oz hHeld ⊢; refine zp 0 ?_; refine zp 2 ?_; refine zp 4 ?_; refine zp 6 ?_; refine zp 10 ?_; refine zt 1 ?_; refine zt 3 ?_; refine zt 5 ?_; refine zt 7 ?_; refine zp 8 ?_; refine zt 9 ?_; refine zt 11 ?_; refine wU 12 (fun K hK => ?_); refine lu Tryd.func51 (by kernel_rfl) rfl #[.int .u64 (rd jb ((aa ah eT).f1)), .int .i64 ((aa ah eT).f0)] (by rfl) rfl rfl Cc ?_; with_reducible refine (fM.calls (rd jb ((aa ah eT).f1)) ((aa ah eT).f0) t148 _ A36.out).mono ?_
                         rintro e w' ⟨rfl, ⟨nd, rfl⟩⟩; refine ⟨_, rfl, ?_⟩; have p37 : 0 ≤ (((aa ah eT).f1) : Int) := zo; have q37 : (((aa ah eT).f1) : Int) < ((jb.length : Int) : Int) := zo; obtain ⟨Cu, aBD, aob, aoc, aud, aBE, aod⟩ := Kd.ZP gQ.out (by omega); (first | cases aob | (injection aob with ea_ en_ ec_; (first | subst ea_ | (injection ea_ with ea_; subst ea_)); subst ec_; clear en_)); have aBF := zA aoc; have aBG := zA aod; clear aoc aud aod; (first | simp only [add_plain] at Oz | skip); obtain ⟨aug, auh⟩ := Kd.VK 0 gQ.out (((aa ah eT).f1) : Int) p37 q37; replace p37 := eq_true p37; replace q37 := eq_true q37; have ajC := Kd.ZT gQ.out (((aa ah eT).f1) : Int) t148; rw [← an9.out] at ajC; have aoe := zA ajC; clear ajC; refine hK.out _ _ ⟨(ai gD.out 0).trans rfl, (ai gD.out 1).trans rfl, (ai gD.out 2).trans rfl, (ai qL.out 0).trans rfl, (ai qL.out 1).trans rfl, hHeld.2.2.2.2.2⟩ (fun hHeld => ?_); clear hK K; refine qp 44 ?_; refine zp 13 ?_; refine VL (i := 14) (N := none) #[true, true, true, true, true, true, true, true, true, true, true, true, true, true, true] rfl rfl (Od qd.out (by kernel_rfl)) (by decide) (fun K hK => ?_); refine IU (w1 := ?_) (by rfl) rfl ?_ ?_; rotate_left; · go_simp; rfl
                         refine hK.out _ _ ?_; clear hK K; refine lK (iZ qd.out (by kernel_rfl)) ?_; try go_wp2
                         have n0_ : ag (Kd.R (Kd.int .u64) 76 (w48.setCell ⟨Cu, (((aa ah eT).f1) : Int).toNat, none⟩ (.int .u64 t148)) w.heap.size (fun k_ => some k_ ≠ (qK : Value).ownBlock) (.slice (some ⟨Cu, 0, none⟩) jb.length Js) aa4) := ⟨zR aoe⟩; have n1_ : ag (Kd.R (Kd.int .u64) 76 (w48.setCell ⟨Cu, (((aa ah eT).f1) : Int).toNat, none⟩ (.int .u64 t148)) w.heap.size (fun k_ => some k_ ≠ (.slice (some ⟨Cu, 0, none⟩) jb.length Js : Value).ownBlock) qK jH) := ⟨by refine jF ?_; exact Kd.aQ (Kd.aT (p := ⟨Cu, (((aa ah eT).f1) : Int).toNat, none⟩) (Kd.aQ ic.out (fun k_ hk => (⟨hk, fun e_ => hk (by rw [e_]; rfl)⟩ : _ ∧ k_ ≠ Cu))) (fun _ hk => hk.2) (.int .u64 t148)) (fun _ hk => hk.1)⟩; have n2_ : ag ((w48.setCell ⟨Cu, (((aa ah eT).f1) : Int).toNat, none⟩ (.int .u64 t148)).heap[gU]? = some (.cells #[.int .i64 au, .slice (some aa5) ah.length aW] 24 (0, 0))) := ⟨by refine zk ?_; refine wP ?_ (by have h_ := Kd.oK gQ.out dP.out (by decide); intro e_; exact h_ (by rw [e_]; rfl)) _; refine zk ?_; exact dP.out⟩; have n3_ : ag ((w48.setCell ⟨Cu, (((aa ah eT).f1) : Int).toNat, none⟩ (.int .u64 t148)).heap[kZ]? = some (.cells #[.int .u64 0, .slice none 0 0, .slice none 0 0] 80 (0, 0))) := ⟨by refine zk ?_; refine wP ?_ (by have h_ := Kd.oK gQ.out fE.out (by decide); intro e_; exact h_ (by rw [e_]; rfl)) _; refine zk ?_; exact fE.out⟩; have n4_ : ag ((w48.setCell ⟨Cu, (((aa ah eT).f1) : Int).toNat, none⟩ (.int .u64 t148)).heap[gM]? = some (.cells #[.int .u64 jT, .slice (some ⟨Cu, 0, none⟩) jb.length Js, qK] 80 (0, 0))) := ⟨by refine zk ?_; refine wP ?_ (by have h_ := Kd.oK gQ.out gD.out (by decide); intro e_; exact h_ (by rw [e_]; rfl)) _; refine zk ?_; exact gD.out⟩; have n5_ : ag ((w48.setCell ⟨Cu, (((aa ah eT).f1) : Int).toNat, none⟩ (.int .u64 t148)).heap[pR]? = some (.cells #[.int .i64 ((aa ah eT).f0), .int .i64 ((aa ah eT).f1)] 42 (0, 0))) := ⟨by refine zk ?_; refine wP ?_ (by have h_ := Kd.oK gQ.out qL.out (by decide); intro e_; exact h_ (by rw [e_]; rfl)) _; refine zk ?_; exact qL.out⟩; have n6_ : ag (Below w.heap.size w (w48.setCell ⟨Cu, (((aa ah eT).f1) : Int).toNat, none⟩ (.int .u64 t148))) := ⟨zB HB⟩; (try rw [show ∀ (W_ : World) (n_ : Nat) (a_ : Addr) (v_ : Value), (W_.drewN n_).setCell a_ v_ = (W_.setCell a_ v_).drewN n_ from fun _ _ _ _ => rfl]); generalize (w48.setCell ⟨Cu, (((aa ah eT).f1) : Int).toNat, none⟩ (.int .u64 t148)) = Um at n0_ n1_ n2_ n3_ n4_ n5_ n6_ ⊢; have gQ := n0_; have ic := n1_; have dP := n2_; have fE := n3_; have gD := n4_; have qL := n5_; have HB := n6_; clear n0_ n1_ n2_ n3_ n4_ n5_ n6_; (try (rw [sU Um]; generalize vG : World.drewN Um _ = Um; replace gQ : ag (Kd.R (Kd.int .u64) 76 Um w.heap.size (fun k_ => some k_ ≠ (qK : Value).ownBlock) (.slice (some ⟨Cu, 0, none⟩) jb.length Js) aa4) := ⟨by rw [← vG]; exact (zR gQ)⟩; replace ic : ag (Kd.R (Kd.int .u64) 76 Um w.heap.size (fun k_ => some k_ ≠ (.slice (some ⟨Cu, 0, none⟩) jb.length Js : Value).ownBlock) qK jH) := ⟨by rw [← vG]; exact (zR ic)⟩; replace dP : ag (Um.heap[gU]? = some (.cells #[.int .i64 au, .slice (some aa5) ah.length aW] 24 (0, 0))) := ⟨by rw [← vG]; exact (zK dP)⟩; replace fE : ag (Um.heap[kZ]? = some (.cells #[.int .u64 0, .slice none 0 0, .slice none 0 0] 80 (0, 0))) := ⟨by rw [← vG]; exact (zK fE)⟩; replace gD : ag (Um.heap[gM]? = some (.cells #[.int .u64 jT, .slice (some ⟨Cu, 0, none⟩) jb.length Js, qK] 80 (0, 0))) := ⟨by rw [← vG]; exact (zK gD)⟩; replace qL : ag (Um.heap[pR]? = some (.cells #[.int .i64 ((aa ah eT).f0), .int .i64 ((aa ah eT).f1)] 42 (0, 0))) := ⟨by rw [← vG]; exact (zK qL)⟩; replace HB : ag (Below w.heap.size w Um) := ⟨by rw [← vG]; exact (zB HB)⟩; clear vG)); replace gQ := zA (Kd.nL gQ.out); replace ic := zA (Kd.nL ic.out); replace dP := zA (bO dP.out); replace fE := zA (bO fE.out); replace gD := zA (bO gD.out); replace qL := zA (bO qL.out); replace HB := zA (bn HB.out); obtain ⟨ajD, aa6, ⟨⟩⟩ := Ce (Kd.bD ic.out); have ajE : 0 ≤ (((aa ah eT).f0) : Int) := zo; have ajF : ((aa ah eT).f0) < (jH.length : Int) := zo; obtain ⟨agt, aui, OA⟩ := Kd.eP (Kd.aU ic.out).2.2 ((aa ah eT).f0) ajE ajF; cases aui; replace ajE := eq_true ajE; replace ajF := eq_true ajF; refine EJ (n := 15) (S := fun w' => w'.cell? ⟨gM, 0, none⟩ = some (.int .u64 jT) ∧ w'.cell? ⟨gM, 1, none⟩ = some (.slice (some ⟨Cu, 0, none⟩) jb.length Js) ∧ w'.cell? ⟨gM, 2, none⟩ = some (.slice (some agt) jH.length aa6) ∧ w'.cell? ⟨pR, 0, none⟩ = some (.int .i64 ((aa ah eT).f0)) ∧ w'.cell? ⟨pR, 1, none⟩ = some (.int .i64 ((aa ah eT).f1)) ∧ w'.cell? (agt.add (((aa ah eT).f0)).toNat) = some (.int .u64 (rd jH ((aa ah eT).f0)))) (ds := [14]) bF.an2 bF.ajp ⟨(ai gD.out 0).trans rfl, (ai gD.out 1).trans rfl, (ai gD.out 2).trans rfl, (ai qL.out 0).trans rfl, (ai qL.out 1).trans rfl, OA⟩ (fun hHeld qd DY => ?_); generalize Um.drew = w52 at gQ ic dP fE gD qL HB aoe OA hHeld ⊢; refine zp 0 ?_; refine zp 2 ?_; refine zp 4 ?_; refine zp 6 ?_; refine zp 10 ?_; refine zt 1 ?_; refine zt 3 ?_; refine zt 5 ?_; refine zt 7 ?_; refine zp 8 ?_; refine zt 9 ?_; refine zt 11 ?_; refine wU 12 (fun K hK => ?_); refine lu Tryd.func51 (by kernel_rfl) rfl #[.int .u64 (rd jH ((aa ah eT).f0)), .int .i64 ((aa ah eT).f1)] (by rfl) rfl rfl Cc ?_; with_reducible refine (fM.calls (rd jH ((aa ah eT).f0)) ((aa ah eT).f1) t151 _ YV.out).mono ?_
                         rintro e w' ⟨rfl, ⟨nd, rfl⟩⟩; refine ⟨_, rfl, ?_⟩; have p41 : 0 ≤ (((aa ah eT).f0) : Int) := zo; have q41 : (((aa ah eT).f0) : Int) < ((jH.length : Int) : Int) := zo; obtain ⟨ajG, aBH, aof, aog, aul, aBI, aoh⟩ := Kd.ZP ic.out (by omega); (first | cases aof | (injection aof with ea_ en_ ec_; (first | subst ea_ | (injection ea_ with ea_; subst ea_)); subst ec_; clear en_)); have aBJ := zA aog; have aBK := zA aoh; clear aog aul aoh; (first | simp only [add_plain] at OA | skip); obtain ⟨aum, aun⟩ := Kd.VK 0 ic.out (((aa ah eT).f0) : Int) p41 q41; replace p41 := eq_true p41; replace q41 := eq_true q41; have ajH := Kd.ZT ic.out (((aa ah eT).f0) : Int) t151; rw [← aoa.out] at ajH; have auo := zA ajH; clear ajH; refine hK.out _ _ ⟨(ai gD.out 0).trans rfl, (ai gD.out 1).trans rfl, (ai gD.out 2).trans rfl, (ai qL.out 0).trans rfl, (ai qL.out 1).trans rfl, hHeld.2.2.2.2.2⟩ (fun hHeld => ?_); clear hK K; refine qp 58 ?_; refine zp 13 ?_; refine VL (i := 14) (N := none) #[true, true, true, true, true, true, true, true, true, true, true, true, true, true, true] rfl rfl (Od qd.out (by kernel_rfl)) (by decide) (fun K hK => ?_); refine IU (w1 := ?_) (by rfl) rfl ?_ ?_; rotate_left; · go_simp; rfl
                         refine hK.out _ _ ?_; clear hK K; refine lK (iZ qd.out (by kernel_rfl)) ?_; try go_wp2
                         go_roundg k2
                         case measure => have := iU.out; have := mo.out; omega
                         case rel => exact ⟨(wrap64 (eT + 1)), (aa4), (y152), (.slice (some ⟨Cu, 0, none⟩) jb.length Js), (.slice (some ⟨ajG, 0, none⟩) jH.length aa6), zv, H', ⟨by have := iU.out; have := mo.out; omega⟩, ⟨by refine jF ?_; exact Kd.aQ (Kd.aT (p := ⟨ajG, (((aa ah eT).f0) : Int).toNat, none⟩) (Kd.aQ gQ.out (fun k_ hk => (⟨hk, fun e_ => hk (by rw [e_]; rfl)⟩ : _ ∧ k_ ≠ ajG))) (fun _ hk => hk.2) (.int .u64 t151)) (fun _ hk => hk.1)⟩, ⟨zR auo⟩, ⟨by refine zk ?_; refine wP ?_ (by have h_ := Kd.oK ic.out dP.out (by decide); intro e_; exact h_ (by rw [e_]; rfl)) _; refine zk ?_; exact dP.out⟩, ⟨by refine zk ?_; refine wP ?_ (by have h_ := Kd.oK ic.out fE.out (by decide); intro e_; exact h_ (by rw [e_]; rfl)) _; refine zk ?_; exact fE.out⟩, ⟨by refine zk ?_; refine wP ?_ (by have h_ := Kd.oK ic.out gD.out (by decide); intro e_; exact h_ (by rw [e_]; rfl)) _; refine zk ?_; exact gD.out⟩, ⟨zB HB⟩⟩
                       · rw [if_neg Ty] at H; exact absurd H (by simp)
                     · rw [if_neg Oy] at H; exact absurd H (by simp)
                   · rw [if_neg Fa] at H; exact absurd H (by simp)
                 · rw [if_neg c34] at H; exact absurd H (by simp)
               · rw [if_neg Cj] at H; exact absurd H (by simp)
             · rw [if_neg c32] at H; exact absurd H (by simp)
           · rw [if_neg c31] at H; have Nb := decide_eq_false c31; clear c31; simp only [Option.some.injEq, Prod.mk.injEq] at H; obtain ⟨rfl, rfl, rfl⟩ := H; have agu := jr.out; have agv := fQ.out; have aa7 := jS.out; have aa8 := ja.out; obtain ⟨_, _, _, _, _, _⟩ := nG gD; have aoi := Hr.out; have aoj := Hq.out; obtain ⟨_, _, _, _, _, _⟩ := nG fE; obtain ⟨aew, aex, aup⟩ := Kd.bD gQ.out; subst aup; obtain ⟨ajI, ajJ, auq⟩ := Kd.bD ic.out; subst auq; go_wp2; refine bodyPost_ret (results_cell_row rfl _ _ kZ 80 #[.int .u64 jT, .slice aew jb.length aex, .slice ajI jH.length ajJ] (0, 0) _ rfl (by refine zk ?_; refine aV (cs := #[.int .u64 jT, .slice aew jb.length aex, .slice none 0 0]) ?_ 2 _ rfl; refine zk ?_; refine aV (cs := #[.int .u64 jT, .slice none 0 0, .slice none 0 0]) ?_ 1 _ rfl; refine zk ?_; refine aV (cs := #[.int .u64 0, .slice none 0 0, .slice none 0 0]) ?_ 0 _ rfl; refine zk ?_; exact fE.out) Tryd.underlying80 rfl (by kernel_rfl)) rfl ?_; exact ⟨_, _, ze, by refine jF ?_; exact Kd.aQ (Kd.aT (p := ⟨kZ, 2, none⟩) (Kd.aT (p := ⟨kZ, 1, none⟩) (Kd.aT (p := ⟨kZ, 0, none⟩) (Kd.bJ gQ.out fE.out (by decide)) (fun _ hk => hk.2) (.int .u64 jT)) (fun _ hk => hk.2) (.slice aew jb.length aex)) (fun _ hk => hk.2) (.slice ajI jH.length ajJ)) (fun _ hk => hk.1), by refine jF ?_; exact Kd.aQ (Kd.aT (p := ⟨kZ, 2, none⟩) (Kd.aT (p := ⟨kZ, 1, none⟩) (Kd.aT (p := ⟨kZ, 0, none⟩) (Kd.bJ ic.out fE.out (by decide)) (fun _ hk => hk.2) (.int .u64 jT)) (fun _ hk => hk.2) (.slice aew jb.length aex)) (fun _ hk => hk.2) (.slice ajI jH.length ajJ)) (fun _ hk => hk.1), zB HB⟩
   · rw [if_neg c3] at H; exact absurd H (by simp)
 · rw [if_neg c2] at H; exact absurd H (by simp)
def dM.l0 : Nat → Int → List Int → Int → Int → Int → List Int → List Int → Option (Int)
 | 0, _, _, _, _, _, _, _ => none
 | k + 1, x5, x9, yJ, xg, aey, aez, OC => if xg < yJ then (if 0 ≤ xg then (if xg < (x9.length : Int) then (if 0 ≤ (rd x9 xg) then (if (rd x9 xg) < (OC.length : Int) then (dM.l0 k (Go.bits .or .u64 x5 (rd OC (rd x9 xg))) x9 yJ (wrap64 (xg + 1)) aey aez OC) else (none)) else (none)) else (none)) else (none)) else (some x5)
def dM.f (k : Nat) (au : Int) (ah : List Int) (eF : List Int) (a1 : Int) : Option (Int) := (bQ.f k a1).bind fun t158 => (dM.l0 k 0 t158 (t158.length : Int) 0 au ah eF)
theorem dM.calls (k : Nat) (au : Int) (aZ : Option Addr) (aW : Nat) (ah : List Int) (mg : Option Addr) (mh : Nat) (eF : List Int) (a1 : Int) (r : Int) (w : World) (eY : Kd.C (Kd.int .u64) w aZ ah.length ah) (eZ : ah.length ≤ aW) (tH : Kd.C (Kd.int .u64) w mg eF.length eF) (tJ : eF.length ≤ mh) (hT : kQ w) (h : dM.f k au ah eF a1 = some r) :
 Calls Tryd.prog 79 #[.agg #[.int .u64 au, .slice aZ ah.length aW, .slice mg eF.length mh], .int .u64 a1] w fun e w' => e = .returned (.int .u64 r) ∧ Below w.heap.size w w' := by
 have Uk := Tryd.underlying80; have cz := zA eY; have dX := zA eZ; clear eY eZ; have vT := zA tH; have yS := zA tJ; clear tH tJ; have lM := zA hT; clear hT; have HB := zA (Below.refl w.heap.size w); have H : ((bQ.f k a1).bind fun t158 => (dM.l0 k 0 t158 (t158.length : Int) 0 au ah eF)) = some r := h; clear h; replace H := zE H; obtain ⟨t158, A3, H⟩ := H; (try dsimp only at H); have H' := zA H; clear H; go_enter Tryd.func79, Tryd.ntmps79; go_wp2_with (first | ((with_reducible refine aH (N := 2) rfl ?_); refine zX (N := 2) (cs := #[.int .u64 au, .slice aZ ah.length aW, .slice mg eF.length mh]) (t := 80) ?_; intro aok hg w4 aG hb; have Nc := zA (aG); have ayk := zA (zW hg HB); have ayl := zA (zW hg HB); replace HB := zA (af (zB HB) hb); clear hb aG hg) | ((with_reducible refine ay (f := 50) rfl ?_); refine zG (some 9) rfl Tryd.func50 #[.int .u64 a1] ?_; (with_reducible refine (bQ.calls k a1 t158 _ ?aI A3.out).mono ?_); (case aI => exact kQ.now lM.out (zB HB)); rintro e w5 ⟨v159, rfl, ho0, hb⟩; refine ⟨_, rfl, ?_⟩; have agw := zA (Kd.dw ho0 (aJ (zB HB))); replace Nc := zA (dn Nc hb); replace HB := zA (af (zB HB) hb); obtain ⟨Ao6, co6, eo6⟩ := Kd.bD agw.out; subst eo6)); go_loopg [5, 11] k (fun kq v5 v11 w' => ∃ (bL : Int) (fD : Int), v5 = .int .u64 bL ∧ v11 = .int .i64 fD ∧ ag (dM.l0 kq bL t158 (t158.length : Int) fD au ah eF = some r) ∧ ag (kq ≤ k) ∧ ag (Kd.R (Kd.int .i64) 3 w' w.heap.size (fun _ => True) (.slice Ao6 t158.length co6) t158) ∧ ag (w'.heap[aok]? = some (.cells #[.int .u64 au, (.slice aZ ah.length aW), (.slice mg eF.length mh)] 80 (0, 0))) ∧ ag (Below w.heap.size w w'))
 case atStart => exact ⟨(0), (0), zv, zv, H', ⟨Nat.le_refl _⟩, ⟨zR agw⟩, ⟨zK Nc⟩, ⟨zB HB⟩⟩
 case round =>
  clear H'
  obtain ⟨bL, fD, rfl, rfl, HA, iU, fF, Nc, HB⟩ := hrel; cases gk with
  | zero => exact absurd HA.out (by simp [dM.l0])
  | succ k1 =>
   have H := HA.out; clear HA; simp only [dM.l0] at H; by_cases c7 : fD < (t158.length : Int)
   · rw [if_pos c7] at H; have Am := decide_eq_true c7; clear c7; by_cases c8 : 0 ≤ fD
     · rw [if_pos c8] at H; have Oe := decide_eq_true c8; clear c8; by_cases c9 : fD < (t158.length : Int)
       · rw [if_pos c9] at H; have EX := decide_eq_true c9; clear c9; by_cases c10 : 0 ≤ (rd t158 fD)
         · rw [if_pos c10] at H; have rR := decide_eq_true c10; clear c10; by_cases c11 : (rd t158 fD) < (eF.length : Int)
           · rw [if_pos c11] at H; have EY := decide_eq_true c11; clear c11; have H' := zA H; clear H; have ajK : 0 ≤ (fD : Int) := zo; have ajL : fD < (t158.length : Int) := zo; obtain ⟨aym, auu, asr⟩ := Kd.eP (Kd.aU fF.out).2.2 fD ajK ajL; cases auu; replace ajK := eq_true ajK; replace ajL := eq_true ajL; obtain ⟨_, _, _, _, _, _⟩ := nG Nc; have ajM : 0 ≤ ((rd t158 fD) : Int) := zo; have ajN : (rd t158 fD) < (eF.length : Int) := zo; obtain ⟨ayn, auv, Wt⟩ := Kd.eP vT.out (rd t158 fD) ajM ajN; cases auv; replace Wt := (zx HB Wt :); replace ajM := eq_true ajM; replace ajN := eq_true ajN; go_wp2; go_roundg k1
             case measure => have := iU.out; omega
             case rel => exact ⟨(Go.bits .or .u64 bL (rd eF (rd t158 fD))), (wrap64 (fD + 1)), zv, zv, H', ⟨by have := iU.out; omega⟩, ⟨zR fF⟩, ⟨zK Nc⟩, ⟨zB HB⟩⟩
           · rw [if_neg c11] at H; exact absurd H (by simp)
         · rw [if_neg c10] at H; exact absurd H (by simp)
       · rw [if_neg c9] at H; exact absurd H (by simp)
     · rw [if_neg c8] at H; exact absurd H (by simp)
   · rw [if_neg c7] at H; have Am := decide_eq_false c7; clear c7; obtain rfl := Option.some.inj H; go_wp2; go_ret; exact ⟨ze, zB HB⟩
def iH.f (k : Nat) (au : Int) (ah : List Int) (eF : List Int) (a1 : Int) : Option (Bool) := (dM.f k au ah eF a1).bind fun t164 => (some ((Go.bits .and .u64 t164 a1) == 0))
theorem iH.calls (k : Nat) (au : Int) (aZ : Option Addr) (aW : Nat) (ah : List Int) (mg : Option Addr) (mh : Nat) (eF : List Int) (a1 : Int) (r : Bool) (w : World) (eY : Kd.C (Kd.int .u64) w aZ ah.length ah) (eZ : ah.length ≤ aW) (tH : Kd.C (Kd.int .u64) w mg eF.length eF) (tJ : eF.length ≤ mh) (hT : kQ w) (h : iH.f k au ah eF a1 = some r) :
 Calls Tryd.prog 83 #[.agg #[.int .u64 au, .slice aZ ah.length aW, .slice mg eF.length mh], .int .u64 a1] w fun e w' => e = .returned (.bool r) ∧ Below w.heap.size w w' := by
 have Uk := Tryd.underlying80; have cz := zA eY; have dX := zA eZ; clear eY eZ; have vT := zA tH; have yS := zA tJ; clear tH tJ; have lM := zA hT; clear hT; have HB := zA (Below.refl w.heap.size w); have H : ((dM.f k au ah eF a1).bind fun t164 => (some ((Go.bits .and .u64 t164 a1) == 0))) = some r := h; clear h; replace H := zE H; obtain ⟨t164, A3, H⟩ := H; (try dsimp only at H); obtain rfl := Option.some.inj H; go_enter Tryd.func83, Tryd.ntmps83; go_wp2_with (first | ((with_reducible refine aH (N := 2) rfl ?_); refine zX (N := 2) (cs := #[.int .u64 au, .slice aZ ah.length aW, .slice mg eF.length mh]) (t := 80) ?_; intro ayo hg w4 aG hb; have aa9 := zA (aG); have ayp := zA (zW hg HB); have ayq := zA (zW hg HB); replace HB := zA (af (zB HB) hb); clear hb aG hg; obtain ⟨_, _, _, _, _, _⟩ := nG aa9) | ((with_reducible refine ay (f := 79) rfl ?_); refine zG (some 7) rfl Tryd.func79 #[.agg #[.int .u64 au, .slice aZ ah.length aW, .slice mg eF.length mh], .int .u64 a1] ?_; (with_reducible refine (dM.calls k au _ _ ah _ _ eF a1 t164 _ ?aI ?aN ?bS ?bT ?jh A3.out).mono ?_); (case aI => exact jB cz HB); (case aN => exact dX.out); (case bS => exact jB vT HB); (case bT => exact yS.out); (case jh => exact kQ.now lM.out (zB HB)); rintro e w6 ⟨rfl, hb⟩; refine ⟨_, rfl, ?_⟩; replace aa9 := zA (dn aa9 hb); replace HB := zA (af (zB HB) hb))); go_ret; exact ⟨ze, zB HB⟩
def ek.f (k : Nat) (au : Int) (ah : List Int) (eF : List Int) (a1 : Int) : Option (Bool) := (iH.f k au ah eF a1).bind fun t166 => (if t166 = true then ((dM.f k au ah eF a1).bind fun t167 => (some ((Go.bits .andNot .u64 (Go.bits .andNot .u64 au a1) t167) == 0))) else (some false))
def ek.T1 : Bool × List (List Nat × List Nat) := (true, [([], []), ([], []), ([0, 1], [0, 1]), ([2, 2], [2]), ([3], [3]), ([4, 3], [3, 4]), ([3], [3]), ([5, 6, 3], [3, 5, 6]), ([3], [3]), ([3], [3]), ([8, 9, 3, 3], [3, 8, 9]), ([7, 10, 3], [3, 7, 10]), ([11, 3], [3, 11]), ([3, 12], [3, 12]), ([13, 10, 0, 1, 2, 3, 4, 5, 6, 7, 8, 9, 10, 11, 12, 13], [13])])
def ek.B1 : List Nat := [0, 0, 3, 7, 15, 31, 15, 127, 15, 15, 783, 2047, 4095, 8191, 16383]
theorem ek.Kn : oO .any (opsOf Tryd.f65 1) = ek.T1 := by kernel_rfl
theorem ek.CU : lD ek.T1.2 ek.B1 = true := by kernel_rfl
theorem ek.calls (k : Nat) (au : Int) (aZ : Option Addr) (aW : Nat) (ah : List Int) (mg : Option Addr) (mh : Nat) (eF : List Int) (a1 : Int) (r : Bool) (w : World) (eY : Kd.C (Kd.int .u64) w aZ ah.length ah) (eZ : ah.length ≤ aW) (tH : Kd.C (Kd.int .u64) w mg eF.length eF) (tJ : eF.length ≤ mh) (hT : kQ w) (h : ek.f k au ah eF a1 = some r) :
 Calls Tryd.prog 65 #[.agg #[.int .u64 au, .slice aZ ah.length aW, .slice mg eF.length mh], .int .u64 a1] w fun e w' => e = .returned (.bool r) ∧ Below w.heap.size w w' := by
 have Uk := Tryd.underlying80; have cz := zA eY; have dX := zA eZ; clear eY eZ; have vT := zA tH; have yS := zA tJ; clear tH tJ; have lM := zA hT; clear hT; have HB := zA (Below.refl w.heap.size w); have H : ((iH.f k au ah eF a1).bind fun t166 => (if t166 = true then ((dM.f k au ah eF a1).bind fun t167 => (some ((Go.bits .andNot .u64 (Go.bits .andNot .u64 au a1) t167) == 0))) else (some false))) = some r := h; clear h; replace H := zE H; obtain ⟨t166, A3, H⟩ := H; (try dsimp only at H); by_cases c4 : t166 = true
 · subst c4; rw [if_pos rfl] at H; replace H := zE H; obtain ⟨t167, A5, H⟩ := H; (try dsimp only at H); obtain rfl := Option.some.inj H; go_enter Tryd.func65, Tryd.ntmps65; try go_wp2_with (first | ((with_reducible refine aH (N := 2) rfl ?_); refine zX (N := 2) (cs := #[.int .u64 au, .slice aZ ah.length aW, .slice mg eF.length mh]) (t := 80) ?_; intro KO hg w6 aG hb; have pE := zA (aG); have aol := zA (zW hg HB); have aom := zA (zW hg HB); replace HB := zA (af (zB HB) hb); clear hb aG hg))
   replace pE := zA (bO pE.out); replace HB := zA (bn HB.out); refine EJ (n := 15) (S := fun w' => w'.cell? ⟨KO, 0, none⟩ = some (.int .u64 au) ∧ w'.cell? ⟨KO, 1, none⟩ = some (.slice aZ ah.length aW) ∧ w'.cell? ⟨KO, 2, none⟩ = some (.slice mg eF.length mh)) (ds := []) ek.Kn ek.CU ⟨(ai pE.out 0).trans rfl, (ai pE.out 1).trans rfl, (ai pE.out 2).trans rfl⟩ (fun hHeld qd DY => ?_); generalize w6.drew = w7 at pE HB hHeld ⊢; refine zp 1 ?_; refine zt 0 ?_; refine wU 2 (fun K hK => ?_); refine lu Tryd.func83 (by kernel_rfl) rfl #[.agg #[.int .u64 au, .slice aZ ah.length aW, .slice mg eF.length mh], .int .u64 a1] (by rfl) rfl rfl Cc ?_; with_reducible refine (iH.calls k au _ _ ah _ _ eF a1 true _ ?aI ?aN ?bS ?bT ?jh A3.out).mono ?_
   (case aI => exact jB cz HB); (case aN => exact dX.out); (case bS => exact jB vT HB); (case bT => exact yS.out); (case jh => exact kQ.now lM.out (zB HB)); rintro e w8 ⟨rfl, hb⟩; refine ⟨_, rfl, ?_⟩; replace pE := zA (dn pE hb); replace HB := zA (af (zB HB) hb); refine hK.out _ _ ⟨(ai pE.out 0).trans rfl, (ai pE.out 1).trans rfl, (ai pE.out 2).trans rfl⟩ (fun hHeld => ?_); clear hK K; refine qp 7 ?_; refine zp 3 ?_; refine zp 4 ?_; refine zp 6 ?_; refine zp 9 ?_; refine zt 5 ?_; refine zp 7 ?_; refine zt 8 ?_; refine wU 10 (fun K hK => ?_); refine lu Tryd.func79 (by kernel_rfl) rfl #[.agg #[.int .u64 au, .slice aZ ah.length aW, .slice mg eF.length mh], .int .u64 a1] (by rfl) rfl rfl Cc ?_; with_reducible refine (dM.calls k au _ _ ah _ _ eF a1 t167 _ ?aI ?aN ?bS ?bT ?jh A5.out).mono ?_
   (case aI => exact jB cz HB); (case aN => exact dX.out); (case bS => exact jB vT HB); (case bT => exact yS.out); (case jh => exact kQ.now lM.out (zB HB)); rintro e w9 ⟨rfl, hb⟩; refine ⟨_, rfl, ?_⟩; replace pE := zA (dn pE hb); replace HB := zA (af (zB HB) hb); refine hK.out _ _ ⟨(ai pE.out 0).trans rfl, (ai pE.out 1).trans rfl, (ai pE.out 2).trans rfl⟩ (fun hHeld => ?_); clear hK K; refine qp 15 ?_; refine zp 11 ?_; refine zp 12 ?_; refine zp 13 ?_; refine zp 14 ?_; refine lK (iZ qd.out (by kernel_rfl)) ?_; try go_wp2
   go_ret; exact ⟨ze, zB HB⟩
 · replace c4 := Bool.eq_false_iff.mpr c4; subst c4; rw [if_neg (show ¬ (false = true) by decide)] at H; obtain rfl := Option.some.inj H; go_enter Tryd.func65, Tryd.ntmps65; try go_wp2_with (first | ((with_reducible refine aH (N := 2) rfl ?_); refine zX (N := 2) (cs := #[.int .u64 au, .slice aZ ah.length aW, .slice mg eF.length mh]) (t := 80) ?_; intro KO hg yu aG hb; have pE := zA (aG); have aol := zA (zW hg HB); have aom := zA (zW hg HB); replace HB := zA (af (zB HB) hb); clear hb aG hg))
   replace pE := zA (bO pE.out); replace HB := zA (bn HB.out); refine EJ (n := 15) (S := fun w' => w'.cell? ⟨KO, 0, none⟩ = some (.int .u64 au) ∧ w'.cell? ⟨KO, 1, none⟩ = some (.slice aZ ah.length aW) ∧ w'.cell? ⟨KO, 2, none⟩ = some (.slice mg eF.length mh)) (ds := []) ek.Kn ek.CU ⟨(ai pE.out 0).trans rfl, (ai pE.out 1).trans rfl, (ai pE.out 2).trans rfl⟩ (fun hHeld qd DY => ?_); generalize yu.drew = QE at pE HB hHeld ⊢; refine zp 1 ?_; refine zt 0 ?_; refine wU 2 (fun K hK => ?_); refine lu Tryd.func83 (by kernel_rfl) rfl #[.agg #[.int .u64 au, .slice aZ ah.length aW, .slice mg eF.length mh], .int .u64 a1] (by rfl) rfl rfl Cc ?_; with_reducible refine (iH.calls k au _ _ ah _ _ eF a1 false _ ?aI ?aN ?bS ?bT ?jh A3.out).mono ?_
   (case aI => exact jB cz HB); (case aN => exact dX.out); (case bS => exact jB vT HB); (case bT => exact yS.out); (case jh => exact kQ.now lM.out (zB HB)); rintro e Tz ⟨rfl, hb⟩; refine ⟨_, rfl, ?_⟩; replace pE := zA (dn pE hb); replace HB := zA (af (zB HB) hb); refine hK.out _ _ ⟨(ai pE.out 0).trans rfl, (ai pE.out 1).trans rfl, (ai pE.out 2).trans rfl⟩ (fun hHeld => ?_); clear hK K; refine qp 7 ?_; refine zp 3 ?_; refine zq 4 ?_; refine zq 5 ?_; refine zq 6 ?_; refine zq 7 ?_; refine zq 8 ?_; refine zq 9 ?_; refine zq 10 ?_; refine zq 11 ?_; refine zq 12 ?_; refine zp 13 ?_; refine zp 14 ?_; refine lK (iZ qd.out (by kernel_rfl)) ?_; try go_wp2
   go_ret; exact ⟨ze, zB HB⟩
def dI.l0 : Nat → Int → List Int → Int → Int → Int → List Int → List Int → Option (Int)
 | 0, _, _, _, _, _, _, _ => none
 | k + 1, x5, x9, yJ, xg, aeA, OD, aeB => if xg < yJ then (if 0 ≤ xg then (if xg < (x9.length : Int) then (if 0 ≤ (rd x9 xg) then (if (rd x9 xg) < (OD.length : Int) then (dI.l0 k (Go.bits .or .u64 x5 (rd OD (rd x9 xg))) x9 yJ (wrap64 (xg + 1)) aeA OD aeB) else (none)) else (none)) else (none)) else (none)) else (some x5)
def dI.f (k : Nat) (au : Int) (ah : List Int) (eF : List Int) (a1 : Int) : Option (Int) := (bQ.f k a1).bind fun t169 => (dI.l0 k 0 t169 (t169.length : Int) 0 au ah eF)
theorem dI.calls (k : Nat) (au : Int) (aZ : Option Addr) (aW : Nat) (ah : List Int) (mg : Option Addr) (mh : Nat) (eF : List Int) (a1 : Int) (r : Int) (w : World) (eY : Kd.C (Kd.int .u64) w aZ ah.length ah) (eZ : ah.length ≤ aW) (tH : Kd.C (Kd.int .u64) w mg eF.length eF) (tJ : eF.length ≤ mh) (hT : kQ w) (h : dI.f k au ah eF a1 = some r) :
 Calls Tryd.prog 84 #[.agg #[.int .u64 au, .slice aZ ah.length aW, .slice mg eF.length mh], .int .u64 a1] w fun e w' => e = .returned (.int .u64 r) ∧ Below w.heap.size w w' := by
 have Uk := Tryd.underlying80; have cz := zA eY; have dX := zA eZ; clear eY eZ; have vT := zA tH; have yS := zA tJ; clear tH tJ; have lM := zA hT; clear hT; have HB := zA (Below.refl w.heap.size w); have H : ((bQ.f k a1).bind fun t169 => (dI.l0 k 0 t169 (t169.length : Int) 0 au ah eF)) = some r := h; clear h; replace H := zE H; obtain ⟨t169, A3, H⟩ := H; (try dsimp only at H); have H' := zA H; clear H; go_enter Tryd.func84, Tryd.ntmps84; go_wp2_with (first | ((with_reducible refine aH (N := 2) rfl ?_); refine zX (N := 2) (cs := #[.int .u64 au, .slice aZ ah.length aW, .slice mg eF.length mh]) (t := 80) ?_; intro aon hg w4 aG hb; have Nf := zA (aG); have ayr := zA (zW hg HB); have ays := zA (zW hg HB); replace HB := zA (af (zB HB) hb); clear hb aG hg) | ((with_reducible refine ay (f := 50) rfl ?_); refine zG (some 9) rfl Tryd.func50 #[.int .u64 a1] ?_; (with_reducible refine (bQ.calls k a1 t169 _ ?aI A3.out).mono ?_); (case aI => exact kQ.now lM.out (zB HB)); rintro e w5 ⟨aBL, rfl, ho0, hb⟩; refine ⟨_, rfl, ?_⟩; have agx := zA (Kd.dw ho0 (aJ (zB HB))); replace Nf := zA (dn Nf hb); replace HB := zA (af (zB HB) hb); obtain ⟨Ao6, co6, eo6⟩ := Kd.bD agx.out; subst eo6)); go_loopg [5, 11] k (fun kq v5 v11 w' => ∃ (bL : Int) (fD : Int), v5 = .int .u64 bL ∧ v11 = .int .i64 fD ∧ ag (dI.l0 kq bL t169 (t169.length : Int) fD au ah eF = some r) ∧ ag (kq ≤ k) ∧ ag (Kd.R (Kd.int .i64) 3 w' w.heap.size (fun _ => True) (.slice Ao6 t169.length co6) t169) ∧ ag (w'.heap[aon]? = some (.cells #[.int .u64 au, (.slice aZ ah.length aW), (.slice mg eF.length mh)] 80 (0, 0))) ∧ ag (Below w.heap.size w w'))
 case atStart => exact ⟨(0), (0), zv, zv, H', ⟨Nat.le_refl _⟩, ⟨zR agx⟩, ⟨zK Nf⟩, ⟨zB HB⟩⟩
 case round =>
  clear H'
  obtain ⟨bL, fD, rfl, rfl, HA, iU, fF, Nf, HB⟩ := hrel; cases gk with
  | zero => exact absurd HA.out (by simp [dI.l0])
  | succ k1 =>
   have H := HA.out; clear HA; simp only [dI.l0] at H; by_cases c7 : fD < (t169.length : Int)
   · rw [if_pos c7] at H; have Am := decide_eq_true c7; clear c7; by_cases c8 : 0 ≤ fD
     · rw [if_pos c8] at H; have Oe := decide_eq_true c8; clear c8; by_cases c9 : fD < (t169.length : Int)
       · rw [if_pos c9] at H; have EX := decide_eq_true c9; clear c9; by_cases c10 : 0 ≤ (rd t169 fD)
         · rw [if_pos c10] at H; have rR := decide_eq_true c10; clear c10; by_cases c11 : (rd t169 fD) < (ah.length : Int)
           · rw [if_pos c11] at H; have EY := decide_eq_true c11; clear c11; have H' := zA H; clear H; have ajO : 0 ≤ (fD : Int) := zo; have ajP : fD < (t169.length : Int) := zo; obtain ⟨ayt, auw, ass⟩ := Kd.eP (Kd.aU fF.out).2.2 fD ajO ajP; cases auw; replace ajO := eq_true ajO; replace ajP := eq_true ajP; obtain ⟨_, _, _, _, _, _⟩ := nG Nf; have ajQ : 0 ≤ ((rd t169 fD) : Int) := zo; have ajR : (rd t169 fD) < (ah.length : Int) := zo; obtain ⟨ayu, auy, Wu⟩ := Kd.eP cz.out (rd t169 fD) ajQ ajR; cases auy; replace Wu := (zx HB Wu :); replace ajQ := eq_true ajQ; replace ajR := eq_true ajR; go_wp2; go_roundg k1
             case measure => have := iU.out; omega
             case rel => exact ⟨(Go.bits .or .u64 bL (rd ah (rd t169 fD))), (wrap64 (fD + 1)), zv, zv, H', ⟨by have := iU.out; omega⟩, ⟨zR fF⟩, ⟨zK Nf⟩, ⟨zB HB⟩⟩
           · rw [if_neg c11] at H; exact absurd H (by simp)
         · rw [if_neg c10] at H; exact absurd H (by simp)
       · rw [if_neg c9] at H; exact absurd H (by simp)
     · rw [if_neg c8] at H; exact absurd H (by simp)
   · rw [if_neg c7] at H; have Am := decide_eq_false c7; clear c7; obtain rfl := Option.some.inj H; go_wp2; go_ret; exact ⟨ze, zB HB⟩
def di.f (k : Nat) (au : Int) (ah : List Int) (eF : List Int) (a1 : Int) : Option (Bool) := (iH.f k au ah eF a1).bind fun t175 => (if t175 = true then ((dI.f k au ah eF a1).bind fun t176 => ((dM.f k au ah eF a1).bind fun t177 => (some ((Go.bits .andNot .u64 t176 t177) == 0)))) else (some false))
def di.T1 : Bool × List (List Nat × List Nat) := (true, [([], []), ([], []), ([0, 1], [0, 1]), ([2, 2], [2]), ([3], [3]), ([3], [3]), ([4, 5, 3, 3], [3, 4, 5]), ([3], [3]), ([3], [3]), ([7, 8, 6, 3], [3, 7, 8]), ([6, 9, 3], [3, 6, 9]), ([10, 3], [3, 10]), ([3, 11], [3, 11]), ([12, 9, 0, 1, 2, 3, 4, 5, 6, 7, 8, 9, 10, 11, 12], [12])])
def di.B1 : List Nat := [0, 0, 3, 7, 15, 15, 63, 15, 15, 511, 1023, 2047, 4095, 8191]
theorem di.Kn : oO .any (opsOf Tryd.f66 1) = di.T1 := by kernel_rfl
theorem di.CU : lD di.T1.2 di.B1 = true := by kernel_rfl
theorem di.calls (k : Nat) (au : Int) (aZ : Option Addr) (aW : Nat) (ah : List Int) (mg : Option Addr) (mh : Nat) (eF : List Int) (a1 : Int) (r : Bool) (w : World) (eY : Kd.C (Kd.int .u64) w aZ ah.length ah) (eZ : ah.length ≤ aW) (tH : Kd.C (Kd.int .u64) w mg eF.length eF) (tJ : eF.length ≤ mh) (hT : kQ w) (h : di.f k au ah eF a1 = some r) :
 Calls Tryd.prog 66 #[.agg #[.int .u64 au, .slice aZ ah.length aW, .slice mg eF.length mh], .int .u64 a1] w fun e w' => e = .returned (.bool r) ∧ Below w.heap.size w w' := by
 have Uk := Tryd.underlying80; have cz := zA eY; have dX := zA eZ; clear eY eZ; have vT := zA tH; have yS := zA tJ; clear tH tJ; have lM := zA hT; clear hT; have HB := zA (Below.refl w.heap.size w); have H : ((iH.f k au ah eF a1).bind fun t175 => (if t175 = true then ((dI.f k au ah eF a1).bind fun t176 => ((dM.f k au ah eF a1).bind fun t177 => (some ((Go.bits .andNot .u64 t176 t177) == 0)))) else (some false))) = some r := h; clear h; replace H := zE H; obtain ⟨t175, A3, H⟩ := H; (try dsimp only at H); by_cases c4 : t175 = true
 · subst c4; rw [if_pos rfl] at H; replace H := zE H; obtain ⟨t176, A5, H⟩ := H; (try dsimp only at H); replace H := zE H; obtain ⟨t177, A6, H⟩ := H; (try dsimp only at H); obtain rfl := Option.some.inj H; go_enter Tryd.func66, Tryd.ntmps66; try go_wp2_with (first | ((with_reducible refine aH (N := 2) rfl ?_); refine zX (N := 2) (cs := #[.int .u64 au, .slice aZ ah.length aW, .slice mg eF.length mh]) (t := 80) ?_; intro KP hg w7 aG hb; have nH := zA (aG); have aoo := zA (zW hg HB); have aop := zA (zW hg HB); replace HB := zA (af (zB HB) hb); clear hb aG hg))
   replace nH := zA (bO nH.out); replace HB := zA (bn HB.out); refine EJ (n := 14) (S := fun w' => w'.cell? ⟨KP, 0, none⟩ = some (.int .u64 au) ∧ w'.cell? ⟨KP, 1, none⟩ = some (.slice aZ ah.length aW) ∧ w'.cell? ⟨KP, 2, none⟩ = some (.slice mg eF.length mh)) (ds := []) di.Kn di.CU ⟨(ai nH.out 0).trans rfl, (ai nH.out 1).trans rfl, (ai nH.out 2).trans rfl⟩ (fun hHeld qd DY => ?_); generalize w7.drew = w8 at nH HB hHeld ⊢; refine zp 1 ?_; refine zt 0 ?_; refine wU 2 (fun K hK => ?_); refine lu Tryd.func83 (by kernel_rfl) rfl #[.agg #[.int .u64 au, .slice aZ ah.length aW, .slice mg eF.length mh], .int .u64 a1] (by rfl) rfl rfl Cc ?_; with_reducible refine (iH.calls k au _ _ ah _ _ eF a1 true _ ?aI ?aN ?bS ?bT ?jh A3.out).mono ?_
   (case aI => exact jB cz HB); (case aN => exact dX.out); (case bS => exact jB vT HB); (case bT => exact yS.out); (case jh => exact kQ.now lM.out (zB HB)); rintro e w9 ⟨rfl, hb⟩; refine ⟨_, rfl, ?_⟩; replace nH := zA (dn nH hb); replace HB := zA (af (zB HB) hb); refine hK.out _ _ ⟨(ai nH.out 0).trans rfl, (ai nH.out 1).trans rfl, (ai nH.out 2).trans rfl⟩ (fun hHeld => ?_); clear hK K; refine qp 7 ?_; refine zp 3 ?_; refine zp 5 ?_; refine zp 8 ?_; refine zt 4 ?_; refine zt 7 ?_; refine wU 6 (fun K hK => ?_); refine lu Tryd.func84 (by kernel_rfl) rfl #[.agg #[.int .u64 au, .slice aZ ah.length aW, .slice mg eF.length mh], .int .u64 a1] (by rfl) rfl rfl Cc ?_; with_reducible refine (dI.calls k au _ _ ah _ _ eF a1 t176 _ ?aI ?aN ?bS ?bT ?jh A5.out).mono ?_
   (case aI => exact jB cz HB); (case aN => exact dX.out); (case bS => exact jB vT HB); (case bT => exact yS.out); (case jh => exact kQ.now lM.out (zB HB)); rintro e yu ⟨rfl, hb⟩; refine ⟨_, rfl, ?_⟩; replace nH := zA (dn nH hb); replace HB := zA (af (zB HB) hb); refine hK.out _ _ ⟨(ai nH.out 0).trans rfl, (ai nH.out 1).trans rfl, (ai nH.out 2).trans rfl⟩ (fun hHeld => ?_); clear hK K; refine qp 11 ?_; refine wU 9 (fun K hK => ?_); refine lu Tryd.func79 (by kernel_rfl) rfl #[.agg #[.int .u64 au, .slice aZ ah.length aW, .slice mg eF.length mh], .int .u64 a1] (by rfl) rfl rfl Cc ?_; with_reducible refine (dM.calls k au _ _ ah _ _ eF a1 t177 _ ?aI ?aN ?bS ?bT ?jh A6.out).mono ?_
   (case aI => exact jB cz HB); (case aN => exact dX.out); (case bS => exact jB vT HB); (case bT => exact yS.out); (case jh => exact kQ.now lM.out (zB HB)); rintro e QE ⟨rfl, hb⟩; refine ⟨_, rfl, ?_⟩; replace nH := zA (dn nH hb); replace HB := zA (af (zB HB) hb); refine hK.out _ _ ⟨(ai nH.out 0).trans rfl, (ai nH.out 1).trans rfl, (ai nH.out 2).trans rfl⟩ (fun hHeld => ?_); clear hK K; refine qp 14 ?_; refine zp 10 ?_; refine zp 11 ?_; refine zp 12 ?_; refine zp 13 ?_; refine lK (iZ qd.out (by kernel_rfl)) ?_; try go_wp2
   go_ret; exact ⟨ze, zB HB⟩
 · replace c4 := Bool.eq_false_iff.mpr c4; subst c4; rw [if_neg (show ¬ (false = true) by decide)] at H; obtain rfl := Option.some.inj H; go_enter Tryd.func66, Tryd.ntmps66; try go_wp2_with (first | ((with_reducible refine aH (N := 2) rfl ?_); refine zX (N := 2) (cs := #[.int .u64 au, .slice aZ ah.length aW, .slice mg eF.length mh]) (t := 80) ?_; intro KP hg Tz aG hb; have nH := zA (aG); have aoo := zA (zW hg HB); have aop := zA (zW hg HB); replace HB := zA (af (zB HB) hb); clear hb aG hg))
   replace nH := zA (bO nH.out); replace HB := zA (bn HB.out); refine EJ (n := 14) (S := fun w' => w'.cell? ⟨KP, 0, none⟩ = some (.int .u64 au) ∧ w'.cell? ⟨KP, 1, none⟩ = some (.slice aZ ah.length aW) ∧ w'.cell? ⟨KP, 2, none⟩ = some (.slice mg eF.length mh)) (ds := []) di.Kn di.CU ⟨(ai nH.out 0).trans rfl, (ai nH.out 1).trans rfl, (ai nH.out 2).trans rfl⟩ (fun hHeld qd DY => ?_); generalize Tz.drew = Tw at nH HB hHeld ⊢; refine zp 1 ?_; refine zt 0 ?_; refine wU 2 (fun K hK => ?_); refine lu Tryd.func83 (by kernel_rfl) rfl #[.agg #[.int .u64 au, .slice aZ ah.length aW, .slice mg eF.length mh], .int .u64 a1] (by rfl) rfl rfl Cc ?_; with_reducible refine (iH.calls k au _ _ ah _ _ eF a1 false _ ?aI ?aN ?bS ?bT ?jh A3.out).mono ?_
   (case aI => exact jB cz HB); (case aN => exact dX.out); (case bS => exact jB vT HB); (case bT => exact yS.out); (case jh => exact kQ.now lM.out (zB HB)); rintro e JF ⟨rfl, hb⟩; refine ⟨_, rfl, ?_⟩; replace nH := zA (dn nH hb); replace HB := zA (af (zB HB) hb); refine hK.out _ _ ⟨(ai nH.out 0).trans rfl, (ai nH.out 1).trans rfl, (ai nH.out 2).trans rfl⟩ (fun hHeld => ?_); clear hK K; refine qp 7 ?_; refine zp 3 ?_; refine zq 4 ?_; refine zq 5 ?_; refine zq 6 ?_; refine zq 7 ?_; refine zq 8 ?_; refine zq 9 ?_; refine zq 10 ?_; refine zq 11 ?_; refine zp 12 ?_; refine zp 13 ?_; refine lK (iZ qd.out (by kernel_rfl)) ?_; try go_wp2
   go_ret; exact ⟨ze, zB HB⟩
def jy.f (k : Nat) (au : Int) (ah : List (aD)) (l1 : List Int) (a2 : Int) : Option (Bool) := (bF.f k au ah).bind fun Ao => ((fJ.f k l1).bind fun t186 => (if a2 = 2 then ((ek.f k Ao.1 Ao.2.1 Ao.2.2 t186).bind fun t188 => (some t188)) else ((di.f k Ao.1 Ao.2.1 Ao.2.2 t186).bind fun t189 => (some t189))))
theorem jy.calls (k : Nat) (au : Int) (aZ : Option Addr) (aW : Nat) (ah : List (aD)) (A1 : Option Addr) (c1 : Nat) (l1 : List Int) (a2 : Int) (r : Bool) (w : World) (eY : Kd.C gm w aZ ah.length ah) (eZ : ah.length ≤ aW) (hr1 : Kd.C (Kd.int .i64) w A1 l1.length l1) (hc1 : l1.length ≤ c1) (hT : kQ w) (h : jy.f k au ah l1 a2 = some r) :
 Calls Tryd.prog 38 #[.agg #[.int .i64 au, .slice aZ ah.length aW], .slice A1 l1.length c1, .int .i64 a2] w fun e w' => e = .returned (.bool r) ∧ Below w.heap.size w w' := by
 have uk := Tryd.underlying24; have Uk := Tryd.underlying80; have cz := zA eY; have dX := zA eZ; clear eY eZ; have HR1 := zA hr1; have rX := zA hc1; clear hr1 hc1; have lM := zA hT; clear hT; have HB := zA (Below.refl w.heap.size w); have H : ((bF.f k au ah).bind fun Ao => ((fJ.f k l1).bind fun t186 => (if a2 = 2 then ((ek.f k Ao.1 Ao.2.1 Ao.2.2 t186).bind fun t188 => (some t188)) else ((di.f k Ao.1 Ao.2.1 Ao.2.2 t186).bind fun t189 => (some t189))))) = some r := h; clear h; replace H := Option.bind_eq_some_iff.mp H; obtain ⟨⟨t179, t180, t183⟩, YV, H⟩ := H; (try dsimp only at H); have A4 := zA YV; clear YV; replace H := zE H; obtain ⟨t186, A5, H⟩ := H; (try dsimp only at H); by_cases c6 : a2 = 2
 · rw [if_pos c6] at H; have yH : (a2 == 2) = true := beq_iff_eq.mpr c6; have YY : (a2 != 2) = false := bne_eq_false_iff_eq.mpr c6; clear c6; replace H := zE H; obtain ⟨t188, A7, H⟩ := H; (try dsimp only at H); obtain rfl := Option.some.inj H; go_enter Tryd.func38, Tryd.ntmps38; go_wp2_with (first | ((with_reducible refine aH (N := 3) rfl ?_); refine zX (N := 3) (cs := #[.int .i64 au, .slice aZ ah.length aW]) (t := 24) ?_; intro Q7 hg w8 aG hb; have qW := zA (aG); have aoq := zA (zW hg HB); have aor := zA (zW hg HB); replace HB := zA (af (zB HB) hb); clear hb aG hg; obtain ⟨_, _, _, _⟩ := iG qW) | ((with_reducible refine ay (f := 49) rfl ?_); refine zG (some 10) rfl Tryd.func49 #[.agg #[.int .i64 au, .slice aZ ah.length aW]] ?_; (with_reducible refine (bF.calls k au _ _ ah t179 t180 t183 _ ?aI ?aN A4.out).mono ?_); (case aI => exact jB cz HB); (case aN => exact dX.out); rintro e yu ⟨aba, abb, rfl, ho0, ho1, hb⟩; refine ⟨_, rfl, ?_⟩; have uo := zA (Kd.dw ho0 (aJ (zB HB))); have uq := zA (Kd.dw ho1 (aJ (zB HB))); replace qW := zA (dn qW hb); replace HB := zA (af (zB HB) hb)) | ((with_reducible refine ay (f := 48) rfl ?_); refine zG (some 12) rfl Tryd.func48 #[.slice A1 l1.length c1] ?_; (with_reducible refine (fJ.calls k _ _ l1 t186 _ ?aI ?aN A5.out).mono ?_); (case aI => exact jB HR1 HB); (case aN => exact rX.out); rintro e w' ⟨rfl, ⟨nd, rfl⟩⟩; refine ⟨_, rfl, ?_⟩; (try (rw [sU yu]; generalize vG : World.drewN yu _ = yu; replace uo : ag (Kd.R (Kd.int .u64) 76 yu w.heap.size (fun k_ => some k_ ≠ (abb : Value).ownBlock) aba t180) := ⟨by rw [← vG]; exact (zR uo)⟩; replace uq : ag (Kd.R (Kd.int .u64) 76 yu w.heap.size (fun k_ => some k_ ≠ (aba : Value).ownBlock) abb t183) := ⟨by rw [← vG]; exact (zR uq)⟩; replace qW : ag (yu.heap[Q7]? = some (.cells #[.int .i64 au, .slice aZ ah.length aW] 24 (0, 0))) := ⟨by rw [← vG]; exact (zK qW)⟩; replace HB : ag (Below w.heap.size w yu) := ⟨by rw [← vG]; exact (zB HB)⟩; clear vG))) | ((with_reducible refine aH (N := 7) rfl ?_); refine zX (N := 7) (cs := #[.int .u64 0, .slice none 0 0, .slice none 0 0]) (t := 80) ?_; intro pU hg QE aG hb; have yz := zA (aG); have aos := zA (zW hg HB); have aot := zA (zW hg HB); have rC := zA (lZ hg qW); have H8 := zA (l5 hg qW); replace uo := zA (Kd.bf (zR uo) hb); replace uq := zA (Kd.bf (zR uq) hb); replace qW := zA (dn qW hb); replace HB := zA (af (zB HB) hb); clear hb aG hg; have QL := H8.out; have QM := rC.out; obtain ⟨_, _, _, _, _, _⟩ := nG yz; obtain ⟨ql, oL, auz⟩ := Kd.bD uo.out; subst auz; obtain ⟨Dj, Ct, auA⟩ := Kd.bD uq.out; subst auA) | ((with_reducible refine ay (f := 65) rfl ?_); refine zG (some 17) rfl Tryd.func65 #[.agg #[.int .u64 t179, .slice ql t180.length oL, .slice Dj t183.length Ct], .int .u64 t186] ?_; (with_reducible refine (ek.calls k t179 _ _ t180 _ _ t183 t186 t188 _ ?aI ?aN ?bS ?bT ?jh A7.out).mono ?_); (case aI => refine (Kd.aU (e := 76) (base := w.heap.size) (ok := fun k_ => some k_ ≠ (.slice Dj t183.length Ct : Value).ownBlock) (n := t180.length) (c := oL) ?_).2.2; exact (by refine jF ?_; exact (Kd.aQ (Kd.aT (p := ⟨pU, 2, none⟩) (Kd.aT (p := ⟨pU, 1, none⟩) (Kd.aT (p := ⟨pU, 0, none⟩) (Kd.bJ uo.out yz.out (by decide)) (fun _ hk => hk.2) (.int .u64 t179)) (fun _ hk => hk.2) (.slice ql t180.length oL)) (fun _ hk => hk.2) (.slice Dj t183.length Ct)) (fun _ h_ => h_.1)))); (case aN => exact (Kd.aU uo.out).2.1); (case bS => refine (Kd.aU (e := 76) (base := w.heap.size) (ok := fun k_ => some k_ ≠ (.slice ql t180.length oL : Value).ownBlock) (n := t183.length) (c := Ct) ?_).2.2; exact (by refine jF ?_; exact (Kd.aQ (Kd.aT (p := ⟨pU, 2, none⟩) (Kd.aT (p := ⟨pU, 1, none⟩) (Kd.aT (p := ⟨pU, 0, none⟩) (Kd.bJ uq.out yz.out (by decide)) (fun _ hk => hk.2) (.int .u64 t179)) (fun _ hk => hk.2) (.slice ql t180.length oL)) (fun _ hk => hk.2) (.slice Dj t183.length Ct)) (fun _ h_ => h_.1)))); (case bT => exact (Kd.aU uq.out).2.1); (case jh => exact kQ.now lM.out (zB HB)); rintro e w16 ⟨rfl, hb⟩; refine ⟨_, rfl, ?_⟩; replace uo := zA (Kd.bf (by refine jF ?_; exact (Kd.aQ (Kd.aT (p := ⟨pU, 2, none⟩) (Kd.aT (p := ⟨pU, 1, none⟩) (Kd.aT (p := ⟨pU, 0, none⟩) (Kd.bJ uo.out yz.out (by decide)) (fun _ hk => hk.2) (.int .u64 t179)) (fun _ hk => hk.2) (.slice ql t180.length oL)) (fun _ hk => hk.2) (.slice Dj t183.length Ct)) (fun _ h_ => h_.1))) hb); replace uq := zA (Kd.bf (by refine jF ?_; exact (Kd.aQ (Kd.aT (p := ⟨pU, 2, none⟩) (Kd.aT (p := ⟨pU, 1, none⟩) (Kd.aT (p := ⟨pU, 0, none⟩) (Kd.bJ uq.out yz.out (by decide)) (fun _ hk => hk.2) (.int .u64 t179)) (fun _ hk => hk.2) (.slice ql t180.length oL)) (fun _ hk => hk.2) (.slice Dj t183.length Ct)) (fun _ h_ => h_.1))) hb); replace qW := zA (fo (g := Q7) (o := .cells #[.int .i64 au, .slice aZ ah.length aW] 24 (0, 0)) (by refine iA rC.out ?_; refine iA rC.out ?_; refine iA rC.out ?_; refine zk ?_; exact qW.out) hb); replace yz := zA (fo (g := pU) (o := .cells #[.int .u64 t179, .slice ql t180.length oL, .slice Dj t183.length Ct] 80 (0, 0)) (by refine zk ?_; refine aV (cs := #[.int .u64 t179, .slice ql t180.length oL, .slice none 0 0]) ?_ 2 _ rfl; refine zk ?_; refine aV (cs := #[.int .u64 t179, .slice none 0 0, .slice none 0 0]) ?_ 1 _ rfl; refine zk ?_; refine aV (cs := #[.int .u64 0, .slice none 0 0, .slice none 0 0]) ?_ 0 _ rfl; refine zk ?_; exact yz.out) hb); replace HB := zA (af (zB HB) hb))); go_ret; exact ⟨ze, zB HB⟩
 · rw [if_neg c6] at H; have yH : (a2 == 2) = false := beq_eq_false_iff_ne.mpr c6; have YY : (a2 != 2) = true := bne_iff_ne.mpr c6; replace H := zE H; obtain ⟨t189, A17, H⟩ := H; (try dsimp only at H); obtain rfl := Option.some.inj H; go_enter Tryd.func38, Tryd.ntmps38; go_wp2_with (first | ((with_reducible refine aH (N := 3) rfl ?_); refine zX (N := 3) (cs := #[.int .i64 au, .slice aZ ah.length aW]) (t := 24) ?_; intro Q7 hg w18 aG hb; have qW := zA (aG); have aoq := zA (zW hg HB); have aor := zA (zW hg HB); replace HB := zA (af (zB HB) hb); clear hb aG hg; obtain ⟨_, _, _, _⟩ := iG qW) | ((with_reducible refine ay (f := 49) rfl ?_); refine zG (some 10) rfl Tryd.func49 #[.agg #[.int .i64 au, .slice aZ ah.length aW]] ?_; (with_reducible refine (bF.calls k au _ _ ah t179 t180 t183 _ ?aI ?aN A4.out).mono ?_); (case aI => exact jB cz HB); (case aN => exact dX.out); rintro e w20 ⟨aba, abb, rfl, ho0, ho1, hb⟩; refine ⟨_, rfl, ?_⟩; have uo := zA (Kd.dw ho0 (aJ (zB HB))); have uq := zA (Kd.dw ho1 (aJ (zB HB))); replace qW := zA (dn qW hb); replace HB := zA (af (zB HB) hb)) | ((with_reducible refine ay (f := 48) rfl ?_); refine zG (some 12) rfl Tryd.func48 #[.slice A1 l1.length c1] ?_; (with_reducible refine (fJ.calls k _ _ l1 t186 _ ?aI ?aN A5.out).mono ?_); (case aI => exact jB HR1 HB); (case aN => exact rX.out); rintro e w' ⟨rfl, ⟨nd, rfl⟩⟩; refine ⟨_, rfl, ?_⟩; (try (rw [sU w20]; generalize vG : World.drewN w20 _ = w20; replace uo : ag (Kd.R (Kd.int .u64) 76 w20 w.heap.size (fun k_ => some k_ ≠ (abb : Value).ownBlock) aba t180) := ⟨by rw [← vG]; exact (zR uo)⟩; replace uq : ag (Kd.R (Kd.int .u64) 76 w20 w.heap.size (fun k_ => some k_ ≠ (aba : Value).ownBlock) abb t183) := ⟨by rw [← vG]; exact (zR uq)⟩; replace qW : ag (w20.heap[Q7]? = some (.cells #[.int .i64 au, .slice aZ ah.length aW] 24 (0, 0))) := ⟨by rw [← vG]; exact (zK qW)⟩; replace HB : ag (Below w.heap.size w w20) := ⟨by rw [← vG]; exact (zB HB)⟩; clear vG))) | ((with_reducible refine aH (N := 7) rfl ?_); refine zX (N := 7) (cs := #[.int .u64 0, .slice none 0 0, .slice none 0 0]) (t := 80) ?_; intro pU hg w21 aG hb; have yz := zA (aG); have aos := zA (zW hg HB); have aot := zA (zW hg HB); have rC := zA (lZ hg qW); have H8 := zA (l5 hg qW); replace uo := zA (Kd.bf (zR uo) hb); replace uq := zA (Kd.bf (zR uq) hb); replace qW := zA (dn qW hb); replace HB := zA (af (zB HB) hb); clear hb aG hg; have V8 := H8.out; have V9 := rC.out; obtain ⟨_, _, _, _, _, _⟩ := nG yz; obtain ⟨Mj, KQ, auB⟩ := Kd.bD uo.out; subst auB; obtain ⟨Cv, Aq, ajT⟩ := Kd.bD uq.out; subst ajT) | ((with_reducible refine ay (f := 66) rfl ?_); refine zG (some 20) rfl Tryd.func66 #[.agg #[.int .u64 t179, .slice Mj t180.length KQ, .slice Cv t183.length Aq], .int .u64 t186] ?_; (with_reducible refine (di.calls k t179 _ _ t180 _ _ t183 t186 t189 _ ?aI ?aN ?bS ?bT ?jh A17.out).mono ?_); (case aI => refine (Kd.aU (e := 76) (base := w.heap.size) (ok := fun k_ => some k_ ≠ (.slice Cv t183.length Aq : Value).ownBlock) (n := t180.length) (c := KQ) ?_).2.2; exact (by refine jF ?_; exact (Kd.aQ (Kd.aT (p := ⟨pU, 2, none⟩) (Kd.aT (p := ⟨pU, 1, none⟩) (Kd.aT (p := ⟨pU, 0, none⟩) (Kd.bJ uo.out yz.out (by decide)) (fun _ hk => hk.2) (.int .u64 t179)) (fun _ hk => hk.2) (.slice Mj t180.length KQ)) (fun _ hk => hk.2) (.slice Cv t183.length Aq)) (fun _ h_ => h_.1)))); (case aN => exact (Kd.aU uo.out).2.1); (case bS => refine (Kd.aU (e := 76) (base := w.heap.size) (ok := fun k_ => some k_ ≠ (.slice Mj t180.length KQ : Value).ownBlock) (n := t183.length) (c := Aq) ?_).2.2; exact (by refine jF ?_; exact (Kd.aQ (Kd.aT (p := ⟨pU, 2, none⟩) (Kd.aT (p := ⟨pU, 1, none⟩) (Kd.aT (p := ⟨pU, 0, none⟩) (Kd.bJ uq.out yz.out (by decide)) (fun _ hk => hk.2) (.int .u64 t179)) (fun _ hk => hk.2) (.slice Mj t180.length KQ)) (fun _ hk => hk.2) (.slice Cv t183.length Aq)) (fun _ h_ => h_.1)))); (case bT => exact (Kd.aU uq.out).2.1); (case jh => exact kQ.now lM.out (zB HB)); rintro e w26 ⟨rfl, hb⟩; refine ⟨_, rfl, ?_⟩; replace uo := zA (Kd.bf (by refine jF ?_; exact (Kd.aQ (Kd.aT (p := ⟨pU, 2, none⟩) (Kd.aT (p := ⟨pU, 1, none⟩) (Kd.aT (p := ⟨pU, 0, none⟩) (Kd.bJ uo.out yz.out (by decide)) (fun _ hk => hk.2) (.int .u64 t179)) (fun _ hk => hk.2) (.slice Mj t180.length KQ)) (fun _ hk => hk.2) (.slice Cv t183.length Aq)) (fun _ h_ => h_.1))) hb); replace uq := zA (Kd.bf (by refine jF ?_; exact (Kd.aQ (Kd.aT (p := ⟨pU, 2, none⟩) (Kd.aT (p := ⟨pU, 1, none⟩) (Kd.aT (p := ⟨pU, 0, none⟩) (Kd.bJ uq.out yz.out (by decide)) (fun _ hk => hk.2) (.int .u64 t179)) (fun _ hk => hk.2) (.slice Mj t180.length KQ)) (fun _ hk => hk.2) (.slice Cv t183.length Aq)) (fun _ h_ => h_.1))) hb); replace qW := zA (fo (g := Q7) (o := .cells #[.int .i64 au, .slice aZ ah.length aW] 24 (0, 0)) (by refine iA rC.out ?_; refine iA rC.out ?_; refine iA rC.out ?_; refine zk ?_; exact qW.out) hb); replace yz := zA (fo (g := pU) (o := .cells #[.int .u64 t179, .slice Mj t180.length KQ, .slice Cv t183.length Aq] 80 (0, 0)) (by refine zk ?_; refine aV (cs := #[.int .u64 t179, .slice Mj t180.length KQ, .slice none 0 0]) ?_ 2 _ rfl; refine zk ?_; refine aV (cs := #[.int .u64 t179, .slice none 0 0, .slice none 0 0]) ?_ 1 _ rfl; refine zk ?_; refine aV (cs := #[.int .u64 0, .slice none 0 0, .slice none 0 0]) ?_ 0 _ rfl; refine zk ?_; exact yz.out) hb); replace HB := zA (af (zB HB) hb))); go_ret; exact ⟨ze, zB HB⟩
end Go.Proofs.YtjmdlmogdbhdhaaDoor.P
namespace Go.Proofs.YtjmdlmogdbhdhaaDoor.P
open Go.RowKit Go.Proofs.YtjmdlmogdbhdhaaDoorW.PrintWords Go.Proofs.YtjmdlmogdbhdhaaDoorW.PrintLast Go.Proofs.YtjmdlmogdbhdhaaDoorW.PrintMore
def TA (L : List aD) (a b : Nat) : Bool := decide ((⟨(a : Int), (b : Int)⟩ : aD) ∈ L)
structure Ar (N : Int) (L : List aD) (al : Int) (uI out : List Int) : Prop where
  al : qI al (fun a => decide ((a : Int) < N))
  lb : (uI.length : Int) = N
  lo : (out.length : Int) = N
  rb : ∀ j : Nat, (j : Int) < N → qI (rd uI j) (fun a => TA L a j)
  ro : ∀ j : Nat, (j : Int) < N → qI (rd out j) (fun b => TA L j b)
theorem abd (l : List Int) (i j : Nat) (v : Int) (hi : i < l.length) : rd (l.set i v) (j : Int) = if j = i then v else rd l (j : Int) := by
  unfold rd
  simp only [Int.toNat_natCast]
  by_cases h : j = i
  · subst h
    simp [hi]
  · simp [h, List.getElem?_set, Ne.symm h]
theorem abe (n j : Nat) : rd (List.replicate n 0) (j : Int) = 0 := by
  unfold rd
  simp [List.getElem?_replicate]
  split <;> rfl
theorem abf (L : List aD) (i : Nat) (hi : i < L.length) (a b : Nat) : TA (L.take (i + 1)) a b = (TA (L.take i) a b || decide ((a : Int) = L[i].f0 ∧ (b : Int) = L[i].f1)) := by
  unfold TA
  rw [List.take_succ_eq_append_getElem hi]
  simp only [List.mem_append, List.mem_singleton, Bool.decide_or]
  congr 1
  refine decide_eq_decide.2 ⟨fun h => by rw [← h]; exact ⟨rfl, rfl⟩, fun h => ?_⟩
  generalize L[i] = e at h ⊢
  cases e
  simp only at h
  rw [h.1, h.2]
theorem abg {N : Int} {L : List aD} (hG : jd N L) (al : Int) : ∀ (n i : Nat), n + i = L.length → ∀ (uI out : List Int), Ar N (L.take i) al uI out → ∃ by2 KR, Ev (fun k => bF.l1 k L (L.length : Int) (i : Int) al uI out) (al, by2, KR) ∧ Ar N L al by2 KR
  | 0, i, hi, uI, out, h => by
    refine ⟨uI, out, Ev.succ ?_, ?_⟩
    · simp only [bF.l1]
      exact Ev.neg (by omega) (Ev.const _)
    · rwa [List.take_of_length_le (by omega)] at h
  | n + 1, i, hi, uI, out, h => by
    have hlt : i < L.length := by omega
    have hlen := mq hG
    have hw : wrap64 ((i : Int) + 1) = ((i + 1 : Nat) : Int) := by rw [kT _ (by omega) (by omega)]; rfl
    have hr := hG.inr _ (List.getElem_mem hlt)
    have hN := hG.n1
    have het := abf L i hlt
    generalize hp : L[i] = p at hr het
    obtain ⟨x, hx⟩ : ∃ x : Nat, p.f0 = x := ⟨p.f0.toNat, by omega⟩
    obtain ⟨y, hy⟩ : ∃ y : Nat, p.f1 = y := ⟨p.f1.toNat, by omega⟩
    obtain ⟨u, e1, hu⟩ := Fh (h.rb y (by omega)) x (by omega)
    obtain ⟨v, e2, hv⟩ := Fh (h.ro x (by omega)) y (by omega)
    have hlb := h.lb
    have hlo := h.lo
    obtain ⟨by2, KR, e3, h3⟩ := abg hG al n (i + 1) (by omega) (uI.set y u) (out.set x v) (by
      refine ⟨h.al, by rw [List.length_set]; exact hlb, by rw [List.length_set]; exact hlo, fun j hj => ?_, fun j hj => ?_⟩
      · rw [abd _ _ _ _ (by omega)]
        split
        · rename_i hjy
          subst hjy
          exact hu.congr fun a => by
            rw [het, hx, hy]
            congr 1
            exact decide_eq_decide.2 (by omega)
        · rename_i hjy
          exact (h.rb j hj).congr fun a => by
            rw [het, hx, hy, decide_eq_false (by omega), Bool.or_false]
      · rw [abd _ _ _ _ (by omega)]
        split
        · rename_i hjx
          subst hjx
          exact hv.congr fun a => by
            rw [het, hx, hy]
            congr 1
            exact decide_eq_decide.2 (by omega)
        · rename_i hjx
          exact (h.ro j hj).congr fun a => by
            rw [het, hx, hy, decide_eq_false (by omega), Bool.or_false])
    refine ⟨by2, KR, Ev.succ ?_, h3⟩
    simp only [bF.l1, o7 L i hlt, hp, hx, hy, hw, e1, e2, Option.bind_some, Int.toNat_natCast]
    exact Ev.pos (by omega) (Ev.pos (by omega) (Ev.pos (by omega) (Ev.pos (by omega) (Ev.pos (by omega) (Ev.pos (by omega) (Ev.pos (by omega) e3))))))
theorem abj {N : Int} {L : List aD} (hG : jd N L) (uI out : List Int) : ∀ (n i : Nat), ((n + i : Nat) : Int) = N → ∀ (al : Int), qI al (fun a => decide (a < i)) → (∀ al, qI al (fun a => decide ((a : Int) < N)) → Ar N (L.take 0) al uI out) → ∃ al2 by2 KR, Ev (fun k => bF.l0 k N (i : Int) N L al uI out) (al2, by2, KR) ∧ Ar N L al2 by2 KR
  | 0, i, hi, al, ha, h => by
    have h2 : qI al (fun a => decide ((a : Int) < N)) := ha.congr fun a => decide_eq_decide.2 (by omega)
    obtain ⟨by2, KR, e, h3⟩ := abg hG al L.length 0 (by omega) uI out (h al h2)
    refine ⟨al, by2, KR, Ev.succ ?_, h3⟩
    simp only [bF.l0]
    exact Ev.neg (by omega) e
  | n + 1, i, hi, al, ha, h => by
    have hN := hG.n1
    have hw : wrap64 ((i : Int) + 1) = ((i + 1 : Nat) : Int) := by rw [kT _ (by omega) (by omega)]; rfl
    obtain ⟨v, e1, hv⟩ := Fh ha i (by omega)
    obtain ⟨al2, by2, KR, e2, h2⟩ := abj hG uI out n (i + 1) (by omega) v (hv.congr fun a => by
      rw [← Bool.decide_or]
      exact decide_eq_decide.2 (by omega)) h
    refine ⟨al2, by2, KR, Ev.succ ?_, h2⟩
    simp only [bF.l0, e1, hw, Option.bind_some]
    exact Ev.pos (by omega) e2
theorem OE {N : Int} {L : List aD} (hG : jd N L) : ∃ al uI out, Ev (fun k => bF.f k N L) (al, uI, out) ∧ Ar N L al uI out := by
  have h0 := hG.n0
  have h1 := hG.n1
  obtain ⟨al, uI, out, e, h⟩ := abj hG (List.replicate N.toNat 0) (List.replicate N.toNat 0) N.toNat 0 (by omega) 0 (qI.zero.congr fun a => by simp) (fun al ha => ⟨ha, by rw [List.length_replicate]; omega, by rw [List.length_replicate]; omega, fun j hj => by
    rw [abe]
    exact qI.zero.congr fun a => by simp [TA], fun j hj => by
    rw [abe]
    exact qI.zero.congr fun a => by simp [TA]⟩)
  refine ⟨al, uI, out, ?_, h⟩
  simp only [bF.f]
  exact Ev.pos (by omega) (Ev.pos (by omega) e)
def hits (L : List aD) (s : Nat → Bool) (b : Nat) : Bool := (List.range 64).any fun a => s a && TA L a b
def Fq (L : List aD) (s : Nat → Bool) (a : Nat) : Bool := (List.range 64).any fun b => s b && TA L a b
theorem Nh {N : Int} {row : List Int} {q : Nat → Nat → Bool} (hN : N ≤ 64) (hrow : ∀ j : Nat, (j : Int) < N → qI (rd row j) (q j)) (l : List Int) (hl : ∀ x ∈ l, 0 ≤ x ∧ x < N) : ∀ (u : Int) (p : Nat → Bool), qI u p → qI (l.foldl (fun u x => Go.bits .or .u64 u (rd row x)) u) (fun b => p b || l.any fun x => q x.toNat b) := by
  induction l with
  | nil => intro u p hu; exact hu.congr fun b => by simp
  | cons x r ih =>
    intro u p hu
    have hx := hl x (by simp)
    have h1 : qI (rd row x) (q x.toNat) := by
      have := hrow x.toNat (by omega)
      rwa [show ((x.toNat : Nat) : Int) = x by omega] at this
    exact (ih (fun y hy => hl y (by simp [hy])) _ _ (hu.or h1)).congr fun b => by simp [Bool.or_assoc]
theorem abk {a0 : Int} {uI out l : List Int} (hl : ∀ x ∈ l, 0 ≤ x ∧ x < (out.length : Int)) (hlen : l.length ≤ 1000000) : ∀ (n i : Nat), n + i = l.length → ∀ u : Int, Ev (fun k => dM.l0 k u l (l.length : Int) (i : Int) a0 uI out) ((l.drop i).foldl (fun u x => Go.bits .or .u64 u (rd out x)) u)
  | 0, i, hi, u => by
    refine Ev.succ ?_
    simp only [dM.l0]
    refine Ev.neg (by omega) ?_
    rw [List.drop_eq_nil_of_le (by omega)]
    exact Ev.const _
  | n + 1, i, hi, u => by
    have hlt : i < l.length := by omega
    have hx := hl _ (List.getElem_mem hlt)
    have hw : wrap64 ((i : Int) + 1) = ((i + 1 : Nat) : Int) := by rw [kT _ (by omega) (by omega)]; rfl
    have ih := abk (a0 := a0) (uI := uI) hl hlen n (i + 1) (by omega) (Go.bits .or .u64 u (rd out l[i]))
    refine Ev.succ ?_
    simp only [dM.l0, pQ l i hlt, hw]
    refine Ev.pos (by omega) (Ev.pos (by omega) (Ev.pos (by omega) (Ev.pos hx.1 (Ev.pos hx.2 ?_))))
    rw [List.drop_eq_getElem_cons hlt]
    exact ih
theorem abl {a0 : Int} {uI out l : List Int} (hl : ∀ x ∈ l, 0 ≤ x ∧ x < (uI.length : Int)) (hlen : l.length ≤ 1000000) : ∀ (n i : Nat), n + i = l.length → ∀ u : Int, Ev (fun k => dI.l0 k u l (l.length : Int) (i : Int) a0 uI out) ((l.drop i).foldl (fun u x => Go.bits .or .u64 u (rd uI x)) u)
  | 0, i, hi, u => by
    refine Ev.succ ?_
    simp only [dI.l0]
    refine Ev.neg (by omega) ?_
    rw [List.drop_eq_nil_of_le (by omega)]
    exact Ev.const _
  | n + 1, i, hi, u => by
    have hlt : i < l.length := by omega
    have hx := hl _ (List.getElem_mem hlt)
    have hw : wrap64 ((i : Int) + 1) = ((i + 1 : Nat) : Int) := by rw [kT _ (by omega) (by omega)]; rfl
    have ih := abl (a0 := a0) (out := out) hl hlen n (i + 1) (by omega) (Go.bits .or .u64 u (rd uI l[i]))
    refine Ev.succ ?_
    simp only [dI.l0, pQ l i hlt, hw]
    refine Ev.pos (by omega) (Ev.pos (by omega) (Ev.pos (by omega) (Ev.pos hx.1 (Ev.pos hx.2 ?_))))
    rw [List.drop_eq_getElem_cons hlt]
    exact ih
theorem DK (p : Nat → Bool) : (JE p).length ≤ 64 := by
  unfold JE
  rw [List.length_map]
  exact Nat.le_trans (List.length_filter_le _ _) (by simp)
theorem Wv (p : Nat → Bool) (f : Nat → Bool) : ((JE p).any fun x => f x.toNat) = (List.range 64).any fun a => p a && f a := by
  unfold JE
  rw [List.any_map, List.any_filter]
  rfl
theorem OH {N : Int} {L : List aD} {al : Int} {uI out : List Int} (h : Ar N L al uI out) (hN : N ≤ 40) {u : Int} {s : Nat → Bool} (hu : qI u s) (hs : ∀ a : Nat, s a = true → (a : Int) < N) : ∃ v, Ev (fun k => dM.f k al uI out u) v ∧ qI v (hits L s) := by
  have hm : ∀ x ∈ JE s, 0 ≤ x ∧ x < N := fun x hx => by
    have := (wY (fun a ha => hu.small ha) x).1 hx
    have := hs _ this.2
    omega
  refine ⟨_, ?_, (Nh (by omega) h.ro (JE s) hm 0 _ qI.zero).congr fun b => ?_⟩
  · simp only [dM.f]
    have hlo := h.lo
    exact Ev.bind (DJ hu) (abk (fun x hx => by rw [hlo]; exact hm x hx) (Nat.le_trans (DK s) (by omega)) (JE s).length 0 (by omega) 0)
  · rw [Bool.false_or, Wv s (fun a => TA L a b)]
    rfl
theorem ajU {N : Int} {L : List aD} {al : Int} {uI out : List Int} (h : Ar N L al uI out) (hN : N ≤ 40) {u : Int} {s : Nat → Bool} (hu : qI u s) (hs : ∀ a : Nat, s a = true → (a : Int) < N) : ∃ v, Ev (fun k => dI.f k al uI out u) v ∧ qI v (Fq L s) := by
  have hm : ∀ x ∈ JE s, 0 ≤ x ∧ x < N := fun x hx => by
    have := (wY (fun a ha => hu.small ha) x).1 hx
    have := hs _ this.2
    omega
  refine ⟨_, ?_, (Nh (by omega) h.rb (JE s) hm 0 _ qI.zero).congr fun b => ?_⟩
  · simp only [dI.f]
    have hlb := h.lb
    exact Ev.bind (DJ hu) (abl (fun x hx => by rw [hlb]; exact hm x hx) (Nat.le_trans (DK s) (by omega)) (JE s).length 0 (by omega) 0)
  · rw [Bool.false_or, Wv s (fun a => TA L b a)]
    rfl
theorem qI.isz {u : Int} {p : Nat → Bool} (h : qI u p) : (u == 0) = (List.range 64).all fun a => !p a := by
  have hz := h.Ot
  by_cases h0 : u = 0
  · rw [beq_iff_eq.2 h0, eq_comm, List.all_eq_true]
    intro a _
    rw [hz.1 h0 a]
    rfl
  · rw [beq_eq_false_iff_ne.2 h0, eq_comm, Bool.eq_false_iff]
    intro hall
    rw [List.all_eq_true] at hall
    refine h0 (hz.2 fun a => ?_)
    rcases Nat.lt_or_ge a 64 with ha | ha
    · simpa using hall a (List.mem_range.2 ha)
    · exact h.small ha
def fr (L : List aD) (s : Nat → Bool) : Bool := (List.range 64).all fun b => !(hits L s b && s b)
def sta (N : Int) (L : List aD) (s : Nat → Bool) : Bool := (List.range 64).all fun a => !(decide ((a : Int) < N) && !s a && !hits L s a)
def adm (L : List aD) (s : Nat → Bool) : Bool := (List.range 64).all fun a => !(Fq L s a && !hits L s a)
def acc (N : Int) (L : List aD) (s : Nat → Bool) (kind : Int) : Bool := fr L s && if kind = 2 then sta N L s else adm L s
def mD (N : Int) (l : List Int) : Prop := (∀ x ∈ l, 0 ≤ x ∧ x < N) ∧ l.Pairwise (· < ·)
def inl (l : List Int) (a : Nat) : Bool := decide ((a : Int) ∈ l)
theorem mD.len {N : Int} {l : List Int} (h : mD N l) (h0 : 0 ≤ N) (hN : N ≤ 40) : l.length ≤ 40 := by
  have := Ff l 0 N h0 h.2 h.1
  omega
theorem mD.sup {N : Int} {l : List Int} (h : mD N l) (a : Nat) (ha : inl l a = true) : (a : Int) < N := (h.1 _ (of_decide_eq_true ha)).2
theorem mD.of {N : Int} {l : List Int} (h : mD N l) (h0 : 0 ≤ N) (hN : N ≤ 40) : ∃ u, Ev (fun k => fJ.f k l) u ∧ qI u (inl l) :=
  an0 (fun x hx => by have := h.1 x hx; omega) (by have := h.len h0 hN; omega)
theorem Ww {N : Int} {L : List aD} {al : Int} {uI out : List Int} (h : Ar N L al uI out) (hN : N ≤ 40) {u : Int} {s : Nat → Bool} (hu : qI u s) (hs : ∀ a : Nat, s a = true → (a : Int) < N) : Ev (fun k => iH.f k al uI out u) (fr L s) := by
  obtain ⟨v, e, hv⟩ := OH h hN hu hs
  simp only [iH.f]
  refine Ev.bind e ?_
  rw [(hv.and hu).isz]
  exact Ev.const _
theorem Y5 {N : Int} {L : List aD} {al : Int} {uI out : List Int} (h : Ar N L al uI out) (hN : N ≤ 40) {u : Int} {s : Nat → Bool} (hu : qI u s) (hs : ∀ a : Nat, s a = true → (a : Int) < N) : Ev (fun k => ek.f k al uI out u) (fr L s && sta N L s) := by
  obtain ⟨v, e, hv⟩ := OH h hN hu hs
  simp only [ek.f]
  refine Ev.bind (Ww h hN hu hs) ?_
  cases fr L s with
  | false => exact Ev.neg (by simp) (Ev.const _)
  | true =>
    refine Ev.pos rfl (Ev.bind e ?_)
    rw [((h.al.andNot hu).andNot hv).isz]
    exact Ev.const _
theorem Mk {N : Int} {L : List aD} {al : Int} {uI out : List Int} (h : Ar N L al uI out) (hN : N ≤ 40) {u : Int} {s : Nat → Bool} (hu : qI u s) (hs : ∀ a : Nat, s a = true → (a : Int) < N) : Ev (fun k => di.f k al uI out u) (fr L s && adm L s) := by
  obtain ⟨v, e, hv⟩ := OH h hN hu hs
  obtain ⟨t, e2, ht⟩ := ajU h hN hu hs
  simp only [di.f]
  refine Ev.bind (Ww h hN hu hs) ?_
  cases fr L s with
  | false => exact Ev.neg (by simp) (Ev.const _)
  | true =>
    refine Ev.pos rfl (Ev.bind e2 (Ev.bind e ?_))
    rw [(ht.andNot hv).isz]
    exact Ev.const _
theorem Ml {N : Int} {L : List aD} (hG : jd N L) {l : List Int} (hl : mD N l) (kind : Int) : Ev (fun k => jy.f k N L l kind) (acc N L (inl l) kind) := by
  obtain ⟨al, uI, out, e, h⟩ := OE hG
  obtain ⟨u, e2, hu⟩ := hl.of hG.n0 hG.n1
  simp only [jy.f]
  refine Ev.bind e (Ev.bind e2 ?_)
  unfold acc
  by_cases hk : kind = 2
  · rw [if_pos hk]
    exact Ev.pos hk (Ev.bind (Y5 h hG.n1 hu hl.sup) (Ev.const _))
  · rw [if_neg hk]
    exact Ev.neg hk (Ev.bind (Mk h hG.n1 hu hl.sup) (Ev.const _))
theorem qX (L : List aD) (l : List Int) (hl : ∀ x ∈ l, 0 ≤ x ∧ x < 64) (b : Nat) : hits L (inl l) b = true ↔ ∃ a ∈ l, (⟨a, (b : Int)⟩ : aD) ∈ L := by
  unfold hits
  rw [List.any_eq_true]
  constructor
  · rintro ⟨a, _, h⟩
    rw [Bool.and_eq_true] at h
    exact ⟨(a : Int), of_decide_eq_true h.1, of_decide_eq_true h.2⟩
  · rintro ⟨a, ha, he⟩
    have := hl a ha
    have hc : ((a.toNat : Nat) : Int) = a := by omega
    refine ⟨a.toNat, List.mem_range.2 (by omega), ?_⟩
    rw [Bool.and_eq_true]
    exact ⟨decide_eq_true (by rw [hc]; exact ha), decide_eq_true (by rw [hc]; exact he)⟩
theorem Aw (L : List aD) (l : List Int) (hl : ∀ x ∈ l, 0 ≤ x ∧ x < 64) (a : Nat) : Fq L (inl l) a = true ↔ ∃ b ∈ l, (⟨(a : Int), b⟩ : aD) ∈ L := by
  unfold Fq
  rw [List.any_eq_true]
  constructor
  · rintro ⟨b, _, h⟩
    rw [Bool.and_eq_true] at h
    exact ⟨(b : Int), of_decide_eq_true h.1, of_decide_eq_true h.2⟩
  · rintro ⟨b, hb, he⟩
    have := hl b hb
    have hc : ((b.toNat : Nat) : Int) = b := by omega
    refine ⟨b.toNat, List.mem_range.2 (by omega), ?_⟩
    rw [Bool.and_eq_true]
    exact ⟨decide_eq_true (by rw [hc]; exact hb), decide_eq_true (by rw [hc]; exact he)⟩
def aeD (N : Int) (L : List aD) (l : List Int) (kind : Int) : Prop :=
  (∀ a ∈ l, ∀ b ∈ l, ¬ (⟨a, b⟩ : aD) ∈ L) ∧
  if kind = 2 then ∀ a : Int, 0 ≤ a → a < N → a ∈ l ∨ ∃ x ∈ l, (⟨x, a⟩ : aD) ∈ L
  else ∀ p ∈ L, p.f1 ∈ l → ∃ x ∈ l, (⟨x, p.f0⟩ : aD) ∈ L
theorem aeE {N : Int} {L : List aD} (hG : jd N L) {l : List Int} (hl : mD N l) (kind : Int) : acc N L (inl l) kind = true ↔ aeD N L l kind := by
  have hN := hG.n1
  have OI : ∀ x ∈ l, 0 ≤ x ∧ x < 64 := fun x hx => by have := hl.1 x hx; omega
  unfold acc aeD
  rw [Bool.and_eq_true]
  have h1 : fr L (inl l) = true ↔ ∀ a ∈ l, ∀ b ∈ l, ¬ (⟨a, b⟩ : aD) ∈ L := by
    unfold fr
    rw [List.all_eq_true]
    constructor
    · intro h a ha b hb he
      have aBN := OI b hb
      have hc : ((b.toNat : Nat) : Int) = b := by omega
      have := h b.toNat (List.mem_range.2 (by omega))
      rw [(qX L l OI b.toNat).2 ⟨a, ha, by rw [hc]; exact he⟩, show inl l b.toNat = true from decide_eq_true (by rw [hc]; exact hb)] at this
      simp at this
    · intro h b _
      rw [Bool.not_eq_true', Bool.and_eq_false_iff]
      by_cases hb : inl l b = true
      · left
        rw [Bool.eq_false_iff]
        intro hh
        obtain ⟨a, ha, he⟩ := (qX L l OI b).1 hh
        exact h a ha b (of_decide_eq_true hb) he
      · right
        simpa using hb
  refine and_congr h1 ?_
  by_cases hk : kind = 2
  · rw [if_pos hk, if_pos hk]
    unfold sta
    rw [List.all_eq_true]
    constructor
    · intro h a h0 ha
      have hc : ((a.toNat : Nat) : Int) = a := by omega
      have := h a.toNat (List.mem_range.2 (by omega))
      rw [hc, decide_eq_true ha] at this
      simp only [Bool.true_and, Bool.not_eq_true', Bool.and_eq_false_iff, Bool.not_eq_false'] at this
      rcases this with h2 | h2
      · exact .inl (by have := of_decide_eq_true h2; rwa [hc] at this)
      · obtain ⟨x, hx, he⟩ := (qX L l OI _).1 h2
        exact .inr ⟨x, hx, by rwa [hc] at he⟩
    · intro h a _
      by_cases haN : (a : Int) < N
      · rcases h a (by omega) haN with h2 | h2
        · rw [show inl l a = true from decide_eq_true h2]
          simp
        · rw [(qX L l OI a).2 h2]
          simp
      · rw [decide_eq_false haN]
        simp
  · rw [if_neg hk, if_neg hk]
    unfold adm
    rw [List.all_eq_true]
    constructor
    · intro h p hp hb
      have hr := hG.inr p hp
      have hc : ((p.f0.toNat : Nat) : Int) = p.f0 := by omega
      have := h p.f0.toNat (List.mem_range.2 (by omega))
      rw [(Aw L l OI _).2 ⟨p.f1, hb, by rw [hc]; exact hp⟩] at this
      simp only [Bool.true_and, Bool.not_not] at this
      obtain ⟨x, hx, he⟩ := (qX L l OI _).1 this
      exact ⟨x, hx, by rwa [hc] at he⟩
    · intro h a _
      by_cases hb : Fq L (inl l) a = true
      · obtain ⟨b, hb2, he⟩ := (Aw L l OI a).1 hb
        rw [(qX L l OI a).2 (h ⟨a, b⟩ he hb2)]
        simp
      · rw [Bool.not_eq_true] at hb
        rw [hb]
        simp
end Go.Proofs.YtjmdlmogdbhdhaaDoor.P
namespace Go.Proofs.YtjmdlmogdbhdhaaDoor.P
open Go.RowKit Go.Proofs.YtjmdlmogdbhdhaaDoorW.PrintWords Go.Proofs.YtjmdlmogdbhdhaaDoorW.PrintLast Go.Proofs.YtjmdlmogdbhdhaaDoorW.PrintMore
attribute [local go_sem] iI iJ jP jQ gH gI iK iL
set_option linter.unusedVariables false
set_option linter.unusedSimpArgs false
set_option maxHeartbeats 8000000
set_option maxRecDepth 100000
def bM.l0 : Nat → List Int → Int → Int → Option (Bool)
 | 0, _, _, _ => none
 | k + 1, x0, x1, x5 => if x5 < (x0.length : Int) then (if 0 ≤ x5 then (if (rd x0 x5) = x1 then (some true) else (bM.l0 k x0 x1 (wrap64 (x5 + 1)))) else (none)) else (some false)
def bM.f (k : Nat) (l0 : List Int) (a1 : Int) : Option (Bool) := bM.l0 k l0 a1 0
theorem bM.calls (k : Nat) (A0 : Option Addr) (c0 : Nat) (l0 : List Int) (a1 : Int) (r : Bool) (w : World) (hr0 : Kd.C (Kd.int .i64) w A0 l0.length l0) (hc0 : l0.length ≤ c0) (h : bM.f k l0 a1 = some r) :
 Calls Tryd.prog 34 #[.slice A0 l0.length c0, .int .i64 a1] w fun e w' => e = .returned (.bool r) ∧ bR w w' := by
 have uh := zA hr0; have EK := zA hc0; clear hr0 hc0; have H : (bM.l0 k l0 a1 0) = some r := h; clear h; have H' := zA H; clear H; go_enter Tryd.func34, Tryd.ntmps34; go_wp2; go_loopg [5] k (fun kq v5 w' => ∃ (bL : Int), v5 = .int .i64 bL ∧ ag (bM.l0 kq l0 a1 bL = some r) ∧ ag (kq ≤ k) ∧ bR w w')
 case atStart => exact ⟨(0), zv, H', ⟨Nat.le_refl _⟩, by repeat (first | exact bR.refl _ | apply bR.step)⟩
 case round =>
  clear H'
  obtain ⟨bL, rfl, HA, iU, ⟨m1, rfl⟩⟩ := hrel; cases gk with
  | zero => exact absurd HA.out (by simp [bM.l0])
  | succ k1 =>
   have H := HA.out; clear HA; simp only [bM.l0] at H; by_cases c3 : bL < (l0.length : Int)
   · rw [if_pos c3] at H; have zF := decide_eq_true c3; clear c3; by_cases c4 : 0 ≤ bL
     · rw [if_pos c4] at H; have qU := decide_eq_true c4; clear c4; by_cases c5 : (rd l0 bL) = a1
       · rw [if_pos c5] at H; have pM : ((rd l0 bL) == a1) = true := beq_iff_eq.mpr c5; have yh : ((rd l0 bL) != a1) = false := bne_eq_false_iff_eq.mpr c5; clear c5; obtain rfl := Option.some.inj H; have Un : 0 ≤ (bL : Int) := zo; have Uo : bL < (l0.length : Int) := zo; obtain ⟨aou, ajV, aeF⟩ := Kd.eP uh.out bL Un Uo; cases ajV; replace Un := eq_true Un; replace Uo := eq_true Uo; go_wp2; go_ret; exact ⟨by first | rfl | (simp; done) | (simp [*]; done), by repeat (first | exact bR.refl _ | apply bR.step)⟩
       · rw [if_neg c5] at H; have pM : ((rd l0 bL) == a1) = false := beq_eq_false_iff_ne.mpr c5; have yh : ((rd l0 bL) != a1) = true := bne_iff_ne.mpr c5; have H' := zA H; clear H; have Un : 0 ≤ (bL : Int) := zo; have Uo : bL < (l0.length : Int) := zo; obtain ⟨aou, ajV, aeF⟩ := Kd.eP uh.out bL Un Uo; cases ajV; replace Un := eq_true Un; replace Uo := eq_true Uo; go_wp2; go_roundg k1
         case measure => have := iU.out; omega
         case rel => exact ⟨(wrap64 (bL + 1)), zv, H', ⟨by have := iU.out; omega⟩, by repeat (first | exact bR.refl _ | apply bR.step)⟩
     · rw [if_neg c4] at H; exact absurd H (by simp)
   · rw [if_neg c3] at H; have zF := decide_eq_false c3; clear c3; obtain rfl := Option.some.inj H; go_wp2; go_ret; exact ⟨by first | rfl | (simp; done) | (simp [*]; done), by repeat (first | exact bR.refl _ | apply bR.step)⟩
def bX.l0 : Nat → Int → Int → Int → Int → List (aD) → Option (Bool)
 | 0, _, _, _, _, _ => none
 | k + 1, x1, x2, x7, Wx, Fs => if x7 < (Fs.length : Int) then (if 0 ≤ x7 then (if ((aa Fs x7).f0) = x1 then (if ((aa Fs x7).f1) = x2 then (some true) else (bX.l0 k x1 x2 (wrap64 (x7 + 1)) Wx Fs)) else (bX.l0 k x1 x2 (wrap64 (x7 + 1)) Wx Fs)) else (none)) else (some false)
def bX.f (k : Nat) (au : Int) (ah : List (aD)) (a1 : Int) (a2 : Int) : Option (Bool) := bX.l0 k a1 a2 0 au ah
theorem bX.calls (k : Nat) (au : Int) (aZ : Option Addr) (aW : Nat) (ah : List (aD)) (a1 : Int) (a2 : Int) (r : Bool) (w : World) (eY : Kd.C gm w aZ ah.length ah) (eZ : ah.length ≤ aW) (h : bX.f k au ah a1 a2 = some r) :
 Calls Tryd.prog 62 #[.agg #[.int .i64 au, .slice aZ ah.length aW], .int .i64 a1, .int .i64 a2] w fun e w' => e = .returned (.bool r) ∧ Below w.heap.size w w' := by
 have uk := Tryd.underlying24; have cz := zA eY; have dX := zA eZ; clear eY eZ; have HB := zA (Below.refl w.heap.size w); have H : (bX.l0 k a1 a2 0 au ah) = some r := h; clear h; have H' := zA H; clear H; go_enter Tryd.func62, Tryd.ntmps62; go_wp2_with (first | ((with_reducible refine aH (N := 3) rfl ?_); refine zX (N := 3) (cs := #[.int .i64 au, .slice aZ ah.length aW]) (t := 24) ?_; intro aov hg w4 aG hb; have Ja := zA (aG); have ayy := zA (zW hg HB); have ayz := zA (zW hg HB); replace HB := zA (af (zB HB) hb); clear hb aG hg)); go_loopg [7] k (fun kq v7 w' => ∃ (bY : Int), v7 = .int .i64 bY ∧ ag (bX.l0 kq a1 a2 bY au ah = some r) ∧ ag (kq ≤ k) ∧ ag (w'.heap[aov]? = some (.cells #[.int .i64 au, (.slice aZ ah.length aW)] 24 (0, 0))) ∧ ag (Below w.heap.size w w'))
 case atStart => exact ⟨(0), zv, H', ⟨Nat.le_refl _⟩, ⟨zK Ja⟩, ⟨zB HB⟩⟩
 case round =>
  clear H'
  obtain ⟨bY, rfl, HA, iU, Ja, HB⟩ := hrel; cases gk with
  | zero => exact absurd HA.out (by simp [bX.l0])
  | succ k1 =>
   have H := HA.out; clear HA; simp only [bX.l0] at H; by_cases c5 : bY < (ah.length : Int)
   · rw [if_pos c5] at H; have pM := decide_eq_true c5; clear c5; by_cases c6 : 0 ≤ bY
     · rw [if_pos c6] at H; have yH := decide_eq_true c6; clear c6; by_cases c7 : ((aa ah bY).f0) = a1
       · rw [if_pos c7] at H; have Am : (((aa ah bY).f0) == a1) = true := beq_iff_eq.mpr c7; have OJ : (((aa ah bY).f0) != a1) = false := bne_eq_false_iff_eq.mpr c7; clear c7; by_cases c8 : ((aa ah bY).f1) = a2
         · rw [if_pos c8] at H; have Oe : (((aa ah bY).f1) == a2) = true := beq_iff_eq.mpr c8; have auE : (((aa ah bY).f1) != a2) = false := bne_eq_false_iff_eq.mpr c8; clear c8; obtain rfl := Option.some.inj H; obtain ⟨_, _, _, _⟩ := iG Ja; have KS : 0 ≤ (bY : Int) := zo; have KT : bY < (ah.length : Int) := zo; obtain ⟨Wy, abm, yT, yU⟩ := eG cz.out bY KS KT; cases abm; replace yT := (zx HB yT :); replace yU := (zx HB yU :); replace KS := eq_true KS; replace KT := eq_true KT; have Uq : 0 ≤ (bY : Int) := zo; have Ur : bY < (ah.length : Int) := zo; obtain ⟨abn, ajW, Fu, Fv⟩ := eG cz.out bY Uq Ur; obtain rfl : Wy = abn := (by injection ajW); replace Fu := (zx HB Fu :); replace Fv := (zx HB Fv :); replace Uq := eq_true Uq; replace Ur := eq_true Ur; go_wp2; go_ret; exact ⟨ze, zB HB⟩
         · rw [if_neg c8] at H; have Oe : (((aa ah bY).f1) == a2) = false := beq_eq_false_iff_ne.mpr c8; have auE : (((aa ah bY).f1) != a2) = true := bne_iff_ne.mpr c8; have H' := zA H; clear H; obtain ⟨_, _, _, _⟩ := iG Ja; have KS : 0 ≤ (bY : Int) := zo; have KT : bY < (ah.length : Int) := zo; obtain ⟨Wy, abm, yT, yU⟩ := eG cz.out bY KS KT; cases abm; replace yT := (zx HB yT :); replace yU := (zx HB yU :); replace KS := eq_true KS; replace KT := eq_true KT; have Uq : 0 ≤ (bY : Int) := zo; have Ur : bY < (ah.length : Int) := zo; obtain ⟨abn, ajW, Fu, Fv⟩ := eG cz.out bY Uq Ur; obtain rfl : Wy = abn := (by injection ajW); replace Fu := (zx HB Fu :); replace Fv := (zx HB Fv :); replace Uq := eq_true Uq; replace Ur := eq_true Ur; go_wp2; go_roundg k1
           case measure => have := iU.out; omega
           case rel => exact ⟨(wrap64 (bY + 1)), zv, H', ⟨by have := iU.out; omega⟩, ⟨zK Ja⟩, ⟨zB HB⟩⟩
       · rw [if_neg c7] at H; have Am : (((aa ah bY).f0) == a1) = false := beq_eq_false_iff_ne.mpr c7; have OJ : (((aa ah bY).f0) != a1) = true := bne_iff_ne.mpr c7; have H' := zA H; clear H; obtain ⟨_, _, _, _⟩ := iG Ja; have KS : 0 ≤ (bY : Int) := zo; have KT : bY < (ah.length : Int) := zo; obtain ⟨Wy, abm, yT, yU⟩ := eG cz.out bY KS KT; cases abm; replace yT := (zx HB yT :); replace yU := (zx HB yU :); replace KS := eq_true KS; replace KT := eq_true KT; go_wp2; go_roundg k1
         case measure => have := iU.out; omega
         case rel => exact ⟨(wrap64 (bY + 1)), zv, H', ⟨by have := iU.out; omega⟩, ⟨zK Ja⟩, ⟨zB HB⟩⟩
     · rw [if_neg c6] at H; exact absurd H (by simp)
   · rw [if_neg c5] at H; have pM := decide_eq_false c5; clear c5; obtain rfl := Option.some.inj H; obtain ⟨_, _, _, _⟩ := iG Ja; go_wp2; go_ret; exact ⟨ze, zB HB⟩
def dm.l0 : Nat → List Int → Int → Int → Int → List (aD) → Option (Bool)
 | 0, _, _, _, _, _ => none
 | k + 1, x1, x2, x7, Wz, WA => if x7 < (x1.length : Int) then (if 0 ≤ x7 then ((bX.f k Wz WA (rd x1 x7) x2).bind fun ajX => (if ajX = true then (some true) else (dm.l0 k x1 x2 (wrap64 (x7 + 1)) Wz WA))) else (none)) else (some false)
def dm.f (k : Nat) (au : Int) (ah : List (aD)) (l1 : List Int) (a2 : Int) : Option (Bool) := dm.l0 k l1 a2 0 au ah
theorem dm.calls (k : Nat) (au : Int) (aZ : Option Addr) (aW : Nat) (ah : List (aD)) (A1 : Option Addr) (c1 : Nat) (l1 : List Int) (a2 : Int) (r : Bool) (w : World) (eY : Kd.C gm w aZ ah.length ah) (eZ : ah.length ≤ aW) (hr1 : Kd.C (Kd.int .i64) w A1 l1.length l1) (hc1 : l1.length ≤ c1) (h : dm.f k au ah l1 a2 = some r) :
 Calls Tryd.prog 63 #[.agg #[.int .i64 au, .slice aZ ah.length aW], .slice A1 l1.length c1, .int .i64 a2] w fun e w' => e = .returned (.bool r) ∧ Below w.heap.size w w' := by
 have uk := Tryd.underlying24; have cz := zA eY; have dX := zA eZ; clear eY eZ; have HR1 := zA hr1; have rX := zA hc1; clear hr1 hc1; have HB := zA (Below.refl w.heap.size w); have H : (dm.l0 k l1 a2 0 au ah) = some r := h; clear h; have H' := zA H; clear H; go_enter Tryd.func63, Tryd.ntmps63; go_wp2_with (first | ((with_reducible refine aH (N := 3) rfl ?_); refine zX (N := 3) (cs := #[.int .i64 au, .slice aZ ah.length aW]) (t := 24) ?_; intro Q8 hg w4 aG hb; have sD := zA (aG); have ayA := zA (zW hg HB); have ayB := zA (zW hg HB); replace HB := zA (af (zB HB) hb); clear hb aG hg)); go_loopg [7] k (fun kq v7 w' => ∃ (bY : Int), v7 = .int .i64 bY ∧ ag (dm.l0 kq l1 a2 bY au ah = some r) ∧ ag (kq ≤ k) ∧ ag (w'.heap[Q8]? = some (.cells #[.int .i64 au, (.slice aZ ah.length aW)] 24 (0, 0))) ∧ ag (Below w.heap.size w w'))
 case atStart => exact ⟨(0), zv, H', ⟨Nat.le_refl _⟩, ⟨zK sD⟩, ⟨zB HB⟩⟩
 case round =>
  clear H'
  obtain ⟨bY, rfl, HA, iU, sD, HB⟩ := hrel; cases gk with
  | zero => exact absurd HA.out (by simp [dm.l0])
  | succ k1 =>
   have H := HA.out; clear HA; simp only [dm.l0] at H; by_cases c5 : bY < (l1.length : Int)
   · rw [if_pos c5] at H; have pM := decide_eq_true c5; clear c5; by_cases c6 : 0 ≤ bY
     · rw [if_pos c6] at H; have yH := decide_eq_true c6; clear c6; replace H := zE H; obtain ⟨ajX, A7, H⟩ := H; (try dsimp only at H); by_cases c8 : ajX = true
       · subst c8; rw [if_pos rfl] at H; obtain rfl := Option.some.inj H; try go_wp2
         replace sD := zA (bO sD.out); replace HB := zA (bn HB.out); have Us : 0 ≤ (bY : Int) := zo; have Ut : bY < (l1.length : Int) := zo; obtain ⟨abo, ajY, xh⟩ := Kd.eP HR1.out bY Us Ut; have Fw := xh; cases ajY; replace xh := (zx HB xh :); replace Us := eq_true Us; replace Ut := eq_true Ut; refine yc (n := 7) (S := fun w' => w'.cell? ⟨Q8, 0, none⟩ = some (.int .i64 au) ∧ w'.cell? ⟨Q8, 1, none⟩ = some (.slice aZ ah.length aW) ∧ w'.cell? (abo.add (bY).toNat) = some (.int .i64 (rd l1 bY))) (ds := []) #[false, false, false, false, false, false, false] (by kernel_rfl) rfl rfl ⟨(ai sD.out 0).trans rfl, (ai sD.out 1).trans rfl, ((zx HB Fw :))⟩ (fun hHeld => ?_); generalize wr.drew = w9 at sD HB xh hHeld ⊢; refine Mf 1 ?_; refine Mf 2 ?_; refine Mf 3 ?_; refine Mf 5 ?_; refine YC 0 ?_; refine YC 4 ?_; refine N8 (i := 6) (N := some 20) #[true, true, true, true, true, true, true] rfl rfl (by kernel_rfl) (by decide) (fun K hK => ?_); refine lu Tryd.func62 (by kernel_rfl) rfl #[.agg #[.int .i64 au, .slice aZ ah.length aW], .int .i64 (rd l1 bY), .int .i64 a2] (by rfl) rfl rfl Cc ?_; with_reducible refine (bX.calls k1 au _ _ ah (rd l1 bY) a2 true _ ?aI ?aN A7.out).mono ?_
         (case aI => exact jB cz HB); (case aN => exact dX.out); rintro e yu ⟨rfl, hb⟩; refine ⟨_, rfl, ?_⟩; replace sD := zA (dn sD hb); replace HB := zA (af (zB HB) hb); refine hK.out _ _ ⟨(ai sD.out 0).trans rfl, (ai sD.out 1).trans rfl, ((zx HB Fw :))⟩ (fun hHeld => ?_); clear hK K; refine qp 20 ?_; refine lK (by kernel_rfl) ?_; try go_wp2
         go_ret; exact ⟨ze, zB HB⟩
       · replace c8 := Bool.eq_false_iff.mpr c8; subst c8; rw [if_neg (show ¬ (false = true) by decide)] at H; have H' := zA H; clear H; try go_wp2
         replace sD := zA (bO sD.out); replace HB := zA (bn HB.out); have Us : 0 ≤ (bY : Int) := zo; have Ut : bY < (l1.length : Int) := zo; obtain ⟨abo, ajY, xh⟩ := Kd.eP HR1.out bY Us Ut; have Fw := xh; cases ajY; replace xh := (zx HB xh :); replace Us := eq_true Us; replace Ut := eq_true Ut; refine yc (n := 7) (S := fun w' => w'.cell? ⟨Q8, 0, none⟩ = some (.int .i64 au) ∧ w'.cell? ⟨Q8, 1, none⟩ = some (.slice aZ ah.length aW) ∧ w'.cell? (abo.add (bY).toNat) = some (.int .i64 (rd l1 bY))) (ds := []) #[false, false, false, false, false, false, false] (by kernel_rfl) rfl rfl ⟨(ai sD.out 0).trans rfl, (ai sD.out 1).trans rfl, ((zx HB Fw :))⟩ (fun hHeld => ?_); generalize wr.drew = QE at sD HB xh hHeld ⊢; refine Mf 1 ?_; refine Mf 2 ?_; refine Mf 3 ?_; refine Mf 5 ?_; refine YC 0 ?_; refine YC 4 ?_; refine N8 (i := 6) (N := some 20) #[true, true, true, true, true, true, true] rfl rfl (by kernel_rfl) (by decide) (fun K hK => ?_); refine lu Tryd.func62 (by kernel_rfl) rfl #[.agg #[.int .i64 au, .slice aZ ah.length aW], .int .i64 (rd l1 bY), .int .i64 a2] (by rfl) rfl rfl Cc ?_; with_reducible refine (bX.calls k1 au _ _ ah (rd l1 bY) a2 false _ ?aI ?aN A7.out).mono ?_
         (case aI => exact jB cz HB); (case aN => exact dX.out); rintro e Tz ⟨rfl, hb⟩; refine ⟨_, rfl, ?_⟩; replace sD := zA (dn sD hb); replace HB := zA (af (zB HB) hb); refine hK.out _ _ ⟨(ai sD.out 0).trans rfl, (ai sD.out 1).trans rfl, ((zx HB Fw :))⟩ (fun hHeld => ?_); clear hK K; refine qp 20 ?_; refine lK (by kernel_rfl) ?_; try go_wp2
         go_roundg k1
         case measure => have := iU.out; omega
         case rel => exact ⟨(wrap64 (bY + 1)), zv, H', ⟨by have := iU.out; omega⟩, ⟨zK sD⟩, ⟨zB HB⟩⟩
     · rw [if_neg c6] at H; exact absurd H (by simp)
   · rw [if_neg c5] at H; have pM := decide_eq_false c5; clear c5; obtain rfl := Option.some.inj H; go_wp2; go_ret; exact ⟨ze, zB HB⟩
end Go.Proofs.YtjmdlmogdbhdhaaDoor.P
namespace Go.Proofs.YtjmdlmogdbhdhaaDoor.P
open Go.RowKit Go.Proofs.YtjmdlmogdbhdhaaDoorW.PrintWords Go.Proofs.YtjmdlmogdbhdhaaDoorW.PrintLast Go.Proofs.YtjmdlmogdbhdhaaDoorW.PrintMore
theorem Ck (i : Nat) (h : i ≤ 1000000) : wrap64 ((i : Int) + 1) = ((i + 1 : Nat) : Int) := by rw [kT _ (by omega) (by omega)]; rfl
theorem abp (l : List Int) (x : Int) (hl : l.length ≤ 1000000) : ∀ (n i : Nat), n + i = l.length → Ev (fun k => bM.l0 k l x (i : Int)) (decide (x ∈ l.drop i))
  | 0, i, hi => by
    refine Ev.succ ?_
    simp only [bM.l0]
    refine Ev.neg (by omega) ?_
    rw [List.drop_eq_nil_of_le (by omega)]
    exact Ev.const _
  | n + 1, i, hi => by
    have hlt : i < l.length := by omega
    have ih := abp l x hl n (i + 1) (by omega)
    refine Ev.succ ?_
    simp only [bM.l0, pQ l i hlt, Ck i (by omega)]
    refine Ev.pos (by omega) (Ev.pos (by omega) ?_)
    rw [List.drop_eq_getElem_cons hlt]
    by_cases he : l[i] = x
    · refine Ev.pos he ?_
      rw [decide_eq_true (by rw [he]; exact List.mem_cons_self)]
      exact Ev.const _
    · refine Ev.neg he ?_
      rw [show decide (x ∈ l[i] :: l.drop (i + 1)) = decide (x ∈ l.drop (i + 1)) from decide_eq_decide.2 ⟨fun h => (List.mem_cons.1 h).resolve_left (fun e => he e.symm), List.mem_cons_of_mem _⟩]
      exact ih
theorem H9 (l : List Int) (x : Int) (hl : l.length ≤ 1000000) : Ev (fun k => bM.f k l x) (decide (x ∈ l)) := by
  have := abp l x hl l.length 0 (by omega)
  rw [List.drop_zero] at this
  exact this
theorem WB (N : Int) (L : List aD) (a b : Int) (hl : L.length ≤ 1000000) : ∀ (n i : Nat), n + i = L.length → Ev (fun k => bX.l0 k a b (i : Int) N L) (decide ((⟨a, b⟩ : aD) ∈ L.drop i))
  | 0, i, hi => by
    refine Ev.succ ?_
    simp only [bX.l0]
    refine Ev.neg (by omega) ?_
    rw [List.drop_eq_nil_of_le (by omega)]
    exact Ev.const _
  | n + 1, i, hi => by
    have hlt : i < L.length := by omega
    have ih := WB N L a b hl n (i + 1) (by omega)
    refine Ev.succ ?_
    simp only [bX.l0, o7 L i hlt, Ck i (by omega)]
    refine Ev.pos (by omega) (Ev.pos (by omega) ?_)
    rw [List.drop_eq_getElem_cons hlt]
    by_cases he : (⟨a, b⟩ : aD) = L[i]
    · refine Ev.pos (by rw [← he]) (Ev.pos (by rw [← he]) ?_)
      rw [decide_eq_true (by rw [he]; exact List.mem_cons_self)]
      exact Ev.const _
    · rw [show decide ((⟨a, b⟩ : aD) ∈ L[i] :: L.drop (i + 1)) = decide ((⟨a, b⟩ : aD) ∈ L.drop (i + 1)) from decide_eq_decide.2 ⟨fun h => (List.mem_cons.1 h).resolve_left he, List.mem_cons_of_mem _⟩]
      by_cases h1 : (L[i]).f0 = a
      · by_cases h2 : (L[i]).f1 = b
        · exact absurd (by rw [← h1, ← h2]) he
        · exact Ev.pos h1 (Ev.neg h2 ih)
      · exact Ev.neg h1 ih
theorem JG (N : Int) (L : List aD) (a b : Int) (hl : L.length ≤ 1000000) : Ev (fun k => bX.f k N L a b) (decide ((⟨a, b⟩ : aD) ∈ L)) := by
  have := WB N L a b hl L.length 0 (by omega)
  rw [List.drop_zero] at this
  exact this
def Q9 (L : List aD) (s : List Int) (b : Int) : Bool := s.any fun a => decide ((⟨a, b⟩ : aD) ∈ L)
theorem WC (N : Int) (L : List aD) (s : List Int) (b : Int) (hl : L.length ≤ 1000000) (hs : s.length ≤ 1000000) : ∀ (n i : Nat), n + i = s.length → Ev (fun k => dm.l0 k s b (i : Int) N L) (Q9 L (s.drop i) b)
  | 0, i, hi => by
    refine Ev.succ ?_
    simp only [dm.l0]
    refine Ev.neg (by omega) ?_
    rw [List.drop_eq_nil_of_le (by omega)]
    exact Ev.const _
  | n + 1, i, hi => by
    have hlt : i < s.length := by omega
    have ih := WC N L s b hl hs n (i + 1) (by omega)
    refine Ev.succ ?_
    simp only [dm.l0, pQ s i hlt, Ck i (by omega)]
    refine Ev.pos (by omega) (Ev.pos (by omega) (Ev.bind (JG N L _ _ hl) ?_))
    rw [List.drop_eq_getElem_cons hlt]
    unfold Q9
    rw [List.any_cons]
    cases hd : decide ((⟨s[i], b⟩ : aD) ∈ L) with
    | true => exact Ev.pos rfl (Ev.const _)
    | false => exact Ev.neg (by simp) ih
theorem aeG (N : Int) (L : List aD) (s : List Int) (b : Int) (hl : L.length ≤ 1000000) (hs : s.length ≤ 1000000) : Ev (fun k => dm.f k N L s b) (Q9 L s b) := WC N L s b hl hs s.length 0 (by omega)
theorem abq (L : List aD) (s : List Int) (b : Int) : Q9 L s b = true ↔ ∃ x ∈ s, (⟨x, b⟩ : aD) ∈ L := by
  unfold Q9
  simp only [List.any_eq_true, decide_eq_true_eq]
end Go.Proofs.YtjmdlmogdbhdhaaDoor.P
namespace Go.Proofs.YtjmdlmogdbhdhaaDoor.P
open Go.RowKit Go.Proofs.YtjmdlmogdbhdhaaDoorW.PrintWords Go.Proofs.YtjmdlmogdbhdhaaDoorW.PrintLast Go.Proofs.YtjmdlmogdbhdhaaDoorW.PrintMore
attribute [local go_sem] iI iJ jP jQ gH gI iK iL
set_option linter.unusedVariables false
set_option linter.unusedSimpArgs false
set_option maxHeartbeats 8000000
set_option maxRecDepth 100000
mutual
def aM.l0 : Nat → List Int → Int → Int → List (List (aD)) → List (aD) → Int → Int → Int → List (aD) → Int → List Int → List Int → Option ((List (List (aD))))
 | 0, _, _, _, _, _, _, _, _, _, _, _, _ => none
 | k + 1, x1, x2, x7, x9, x24, x25, KJ, JH, OL, x200000, mV, lG => if KJ < x25 then (if 0 ≤ KJ then (if KJ < (x24.length : Int) then ((cO.f x7 ((aa x24 KJ).f0)).bind fun t202 => (if t202 = true then ((cO.f x7 ((aa x24 KJ).f1)).bind fun t203 => (if t203 = true then (if x9.length < 5864062014805 then (aM.l0 k x1 x2 x7 (x9 ++ [(([(⟨(aa x24 KJ).f0, (aa x24 KJ).f1⟩ : aD)] : List (aD)))]) x24 x25 (wrap64 (KJ + 1)) JH OL x200000 mV lG) else (none)) else (aM.l0 k x1 x2 x7 x9 x24 x25 (wrap64 (KJ + 1)) JH OL x200000 mV lG))) else (aM.l0 k x1 x2 x7 x9 x24 x25 (wrap64 (KJ + 1)) JH OL x200000 mV lG))) else (none)) else (none)) else ((dM.f k x200000 mV lG x7).bind fun t210 => (aM.l1 k x1 x2 x7 x9 t210 JH 0 x200000 mV lG))
def aM.l1 : Nat → List Int → Int → Int → List (List (aD)) → Int → Int → Int → Int → List Int → List Int → Option ((List (List (aD))))
 | 0, _, _, _, _, _, _, _, _, _, _ => none
 | k + 1, x1, x2, x7, x9, wK, Uu, EL, x200000, mV, lG => if EL < Uu then ((cO.f x7 EL).bind fun t211 => (if t211 = true then (aM.j2 k x1 x2 x7 x9 wK EL Uu EL true x200000 mV lG) else ((cO.f wK EL).bind fun t212 => (if t212 = true then (aM.j2 k x1 x2 x7 x9 wK EL Uu EL true x200000 mV lG) else (if x2 = 1 then (if 0 ≤ EL then (if EL < (lG.length : Int) then (aM.j2 k x1 x2 x7 x9 wK EL Uu EL ((Go.bits .and .u64 (rd lG EL) x7) == 0) x200000 mV lG) else (none)) else (none)) else (aM.j2 k x1 x2 x7 x9 wK EL Uu EL false x200000 mV lG)))))) else (some x9)
def aM.j2 : Nat → List Int → Int → Int → List (List (aD)) → Int → Int → Int → Int → Bool → Int → List Int → List Int → Option ((List (List (aD))))
 | 0, _, _, _, _, _, _, _, _, _, _, _, _ => none
 | k + 1, x1, x2, x7, x9, wK, wo, Uu, EL, x75, x200000, mV, lG => if x75 = true then (aM.l1 k x1 x2 x7 x9 wK Uu (wrap64 (EL + 1)) x200000 mV lG) else (aM.l2 k x1 x2 x7 x9 wK wo ([] : List (aD)) Uu EL x1 (x1.length : Int) 0 x200000 mV lG)
def aM.l2 : Nat → List Int → Int → Int → List (List (aD)) → Int → Int → List (aD) → Int → Int → List Int → Int → Int → Int → List Int → List Int → Option ((List (List (aD))))
 | 0, _, _, _, _, _, _, _, _, _, _, _, _, _, _, _ => none
 | k + 1, x1, x2, x7, x9, wK, wo, zH, Uu, EL, x76, x77, x78, x200000, mV, lG => if x78 < x77 then (if 0 ≤ x78 then (if x78 < (x76.length : Int) then (if zH.length < 8796093022208 then (aM.l2 k x1 x2 x7 x9 wK wo (zH ++ [(⟨rd x76 x78, wo⟩ : aD)]) Uu EL x76 x77 (wrap64 (x78 + 1)) x200000 mV lG) else (none)) else (none)) else (none)) else (if x2 = 1 then (if 0 ≤ wo then (if wo < (lG.length : Int) then ((bQ.f k (Go.bits .and .u64 (rd lG wo) x7)).bind fun t219 => (aM.l3 k x1 x2 x7 x9 wK wo zH Uu EL t219 (t219.length : Int) 0 x200000 mV lG)) else (none)) else (none)) else ((kS.f zH).bind fun t230 => (if x9.length < 5864062014805 then (aM.l1 k x1 x2 x7 (x9 ++ [t230]) wK Uu (wrap64 (EL + 1)) x200000 mV lG) else (none))))
def aM.l3 : Nat → List Int → Int → Int → List (List (aD)) → Int → Int → List (aD) → Int → Int → List Int → Int → Int → Int → List Int → List Int → Option ((List (List (aD))))
 | 0, _, _, _, _, _, _, _, _, _, _, _, _, _, _, _ => none
 | k + 1, x1, x2, x7, x9, wK, wo, zH, Uu, EL, x98, x99, x100, x200000, mV, lG => if x100 < x99 then (if 0 ≤ x100 then (if x100 < (x98.length : Int) then (if zH.length < 8796093022208 then (aM.l3 k x1 x2 x7 x9 wK wo (zH ++ [(⟨wo, rd x98 x100⟩ : aD)]) Uu EL x98 x99 (wrap64 (x100 + 1)) x200000 mV lG) else (none)) else (none)) else (none)) else ((kS.f zH).bind fun t226 => (if x9.length < 5864062014805 then (aM.l1 k x1 x2 x7 (x9 ++ [t226]) wK Uu (wrap64 (EL + 1)) x200000 mV lG) else (none)))
end
def aM.f (k : Nat) (au : Int) (ah : List (aD)) (l1 : List Int) (a2 : Int) : Option ((List (List (aD)))) := (fJ.f k l1).bind fun t191 => ((bF.f k au ah).bind fun KU => (aM.l0 k l1 a2 t191 ([] : List (List (aD))) ah (ah.length : Int) 0 au ah KU.1 KU.2.1 KU.2.2))
theorem aM.calls (k : Nat) (au : Int) (aZ : Option Addr) (aW : Nat) (ah : List (aD)) (A1 : Option Addr) (c1 : Nat) (l1 : List Int) (a2 : Int) (r : List (List (aD))) (w : World) (eY : Kd.C gm w aZ ah.length ah) (eZ : ah.length ≤ aW) (hr1 : Kd.C (Kd.int .i64) w A1 l1.length l1) (hc1 : l1.length ≤ c1) (hT : kQ w) (h : aM.f k au ah l1 a2 = some r) :
 Calls Tryd.prog 52 #[.agg #[.int .i64 au, .slice aZ ah.length aW], .slice A1 l1.length c1, .int .i64 a2] w fun e w' => ∃ Db : Value, e = .returned (Db) ∧ Kd.S (Kd.slice 42 gm) 22 w' w.heap.size (fun _ => True) Db r ∧ Below w.heap.size w w' := by
 have uk := Tryd.underlying24; have Uk := Tryd.underlying80; have wV := Tryd.underlying42; have cz := zA eY; have dX := zA eZ; clear eY eZ; have HR1 := zA hr1; have rX := zA hc1; clear hr1 hc1; have lM := zA hT; clear hT; have HB := zA (Below.refl w.heap.size w); have H : ((fJ.f k l1).bind fun t191 => ((bF.f k au ah).bind fun KU => (aM.l0 k l1 a2 t191 ([] : List (List (aD))) ah (ah.length : Int) 0 au ah KU.1 KU.2.1 KU.2.2))) = some r := h; clear h; replace H := zE H; obtain ⟨t191, A4, H⟩ := H; (try dsimp only at H); replace H := Option.bind_eq_some_iff.mp H; obtain ⟨⟨t192, t193, t196⟩, A50, H⟩ := H; (try dsimp only at H); have A5 := zA A50; clear A50; have H' := zA H; clear H; go_enter Tryd.func52, Tryd.ntmps52; try go_wp2_with (first | ((with_reducible refine aH (N := 3) rfl ?_); refine zX (N := 3) (cs := #[.int .i64 au, .slice aZ ah.length aW]) (t := 24) ?_; intro qY hg w6 aG hb; have dW := zA (aG); have ayE := zA (zW hg HB); have agy := zA (zW hg HB); replace HB := zA (af (zB HB) hb); clear hb aG hg))
 replace dW := zA (bO dW.out); replace HB := zA (bn HB.out); refine yc (n := 7) (S := fun w' => w'.cell? ⟨qY, 0, none⟩ = some (.int .i64 au) ∧ w'.cell? ⟨qY, 1, none⟩ = some (.slice aZ ah.length aW)) (ds := []) #[false, false, false, false, false, false, false] (by kernel_rfl) rfl rfl ⟨(ai dW.out 0).trans rfl, (ai dW.out 1).trans rfl⟩ (fun hHeld => ?_); generalize w6.drew = w7 at dW HB hHeld ⊢; refine Mf 0 ?_; refine YC 2 ?_; refine Cb (σ := Value × Value × Nat) 2 #[true, true, true, true, true, false, false] (fun s_ => [(20, .int .u64 t191), (22, .agg #[.int .u64 t192, s_.1, s_.2.1]), (8, .pointer (some ⟨s_.2.2, 0, none⟩))]) (fun s_ w' => (w'.cell? ⟨qY, 0, none⟩ = some (.int .i64 au) ∧ w'.cell? ⟨qY, 1, none⟩ = some (.slice aZ ah.length aW)) ∧ (Kd.R (Kd.int .u64) 76 w' w.heap.size (fun k_ => some k_ ≠ (s_.2.1 : Value).ownBlock) s_.1 t193) ∧ (Kd.R (Kd.int .u64) 76 w' w.heap.size (fun k_ => some k_ ≠ (s_.1 : Value).ownBlock) s_.2.1 t196) ∧ (w'.heap[qY]? = some (.cells #[.int .i64 au, .slice aZ ah.length aW] 24 (0, 0))) ∧ (w'.heap[s_.2.2]? = some (.cells #[.int .u64 0, .slice none 0 0, .slice none 0 0] 80 (0, 0))) ∧ (w.heap.size ≤ s_.2.2) ∧ (w.heap.size ≤ s_.2.2) ∧ (qY ≠ s_.2.2) ∧ (s_.2.2 ≠ qY) ∧ (Below w.heap.size w w')) ?_ ?_; rotate_left
 · intro vU; refine Ke (i := 1) (j := 4) (Ni := some 20) (Nj := some 8) #[true, true, true, false, false, false, false] #[true, false, true, false, true, false, false] rfl rfl rfl rfl (by kernel_rfl) (by decide) (by decide) (fun K hK => ?_) (fun K hK => ?_)
   · refine lu Tryd.func48 (by kernel_rfl) rfl #[.slice A1 l1.length c1] (by rfl) rfl rfl Cc ?_; with_reducible refine (fJ.calls k _ _ l1 t191 _ ?aI ?aN A4.out).mono ?_
     (case aI => exact jB HR1 HB); (case aN => exact rX.out); rintro e w' ⟨rfl, ⟨nd, rfl⟩⟩; refine ⟨_, rfl, ?_⟩; refine hK.out _ _ ⟨(ai dW.out 0).trans rfl, (ai dW.out 1).trans rfl⟩ (fun hHeld => ?_); clear hK K; refine qp 20 ?_; refine Ke (i := 3) (j := 4) (Ni := some 22) (Nj := some 8) #[true, true, true, true, false, false, false] #[true, true, true, false, true, false, false] rfl rfl rfl rfl (by kernel_rfl) (by decide) (by decide) (fun K hK => ?_) (fun K hK => ?_)
     · refine lu Tryd.func49 (by kernel_rfl) rfl #[.agg #[.int .i64 au, .slice aZ ah.length aW]] (by rfl) rfl rfl Cc ?_; with_reducible refine (bF.calls k au _ _ ah t192 t193 t196 _ ?aI ?aN A5.out).mono ?_
       (case aI => repeat (first | exact (Kd.bu cz.out (zB HB)) | (with_reducible refine Kd.dY ?_ _) | (with_reducible refine Kd.dZ ?_ _) | (with_reducible refine Kd.fB ?_))); (case aN => exact dX.out); rintro e w8 ⟨v194, Ra, rfl, ho0, ho1, hb⟩; refine ⟨_, rfl, ?_⟩; have Ef := zA (Kd.dw ho0 (aJ (zB HB))); have Eg := zA (Kd.dw ho1 (aJ (zB HB))); replace dW := zA (dn dW hb); replace HB := zA (af (zB HB) hb); refine hK.out _ _ ⟨(ai dW.out 0).trans rfl, (ai dW.out 1).trans rfl⟩ (fun hHeld => ?_); clear hK K; refine qp 22 ?_; refine N8 (i := 4) (N := some 8) #[true, true, true, true, true, false, false] rfl rfl (by kernel_rfl) (by decide) (fun K hK => ?_); refine pK ?hg (N := 8) ?hd (cs := #[.int .u64 0, .slice none 0 0, .slice none 0 0]) (t := 80) ?hr ?_; (case hd => rfl); (case hg => rfl); (case hr => first | (go_simp; done) | (go_simp; rfl)); intro mW hg w9 aG hb; have fG := zA (aG); have Nl := zA (zW hg HB); have Jb := zA (zW hg HB); have jv := zA (lZ hg dW); have nX := zA (l5 hg dW); replace Ef := zA (Kd.bf (zR Ef) hb); replace Eg := zA (Kd.bf (zR Eg) hb); replace dW := zA (dn dW hb); replace HB := zA (af (zB HB) hb); clear hb aG hg; refine hK.out _ _ ⟨(ai dW.out 0).trans rfl, (ai dW.out 1).trans rfl⟩ (fun hHeld => ?_); clear hK K; refine qp 8 ?_; exact Jm (vU (v194, Ra, mW) _ ⟨hHeld, (zR Ef), (zR Eg), (zK dW), (zK fG), Nl.out, Jb.out, jv.out, nX.out, (zB HB)⟩)
     · refine pK ?hg (N := 8) ?hd (cs := #[.int .u64 0, .slice none 0 0, .slice none 0 0]) (t := 80) ?hr ?_; (case hd => rfl); (case hg => rfl); (case hr => first | (go_simp; done) | (go_simp; rfl)); intro mW hg w8 aG hb; have fG := zA (aG); have Nl := zA (zW hg HB); have Jb := zA (zW hg HB); have jv := zA (lZ hg dW); have nX := zA (l5 hg dW); replace dW := zA (dn dW hb); replace HB := zA (af (zB HB) hb); clear hb aG hg; refine hK.out _ _ ⟨(ai dW.out 0).trans rfl, (ai dW.out 1).trans rfl⟩ (fun hHeld => ?_); clear hK K; refine qp 8 ?_; refine N8 (i := 3) (N := some 22) #[true, true, true, true, true, false, false] rfl rfl (by kernel_rfl) (by decide) (fun K hK => ?_); refine lu Tryd.func49 (by kernel_rfl) rfl #[.agg #[.int .i64 au, .slice aZ ah.length aW]] (by rfl) rfl rfl Cc ?_; with_reducible refine (bF.calls k au _ _ ah t192 t193 t196 _ ?aI ?aN A5.out).mono ?_
       (case aI => exact jB cz HB); (case aN => exact dX.out); rintro e w9 ⟨v194, Ra, rfl, ho0, ho1, hb⟩; refine ⟨_, rfl, ?_⟩; have Ef := zA (Kd.dw ho0 (aJ (zB HB))); have Eg := zA (Kd.dw ho1 (aJ (zB HB))); replace dW := zA (dn dW hb); replace fG := zA (dn fG hb); replace HB := zA (af (zB HB) hb); refine hK.out _ _ ⟨(ai dW.out 0).trans rfl, (ai dW.out 1).trans rfl⟩ (fun hHeld => ?_); clear hK K; refine qp 22 ?_; exact Jm (vU (v194, Ra, mW) _ ⟨hHeld, (zR Ef), (zR Eg), (zK dW), (zK fG), Nl.out, Jb.out, jv.out, nX.out, (zB HB)⟩)
   · refine pK ?hg (N := 8) ?hd (cs := #[.int .u64 0, .slice none 0 0, .slice none 0 0]) (t := 80) ?hr ?_; (case hd => rfl); (case hg => rfl); (case hr => first | (go_simp; done) | (go_simp; rfl)); intro mW hg w8 aG hb; have fG := zA (aG); have Nl := zA (zW hg HB); have Jb := zA (zW hg HB); have jv := zA (lZ hg dW); have nX := zA (l5 hg dW); replace dW := zA (dn dW hb); replace HB := zA (af (zB HB) hb); clear hb aG hg; refine hK.out _ _ ⟨(ai dW.out 0).trans rfl, (ai dW.out 1).trans rfl⟩ (fun hHeld => ?_); clear hK K; refine qp 8 ?_; refine N8 (i := 1) (N := some 20) #[true, true, true, false, true, false, false] rfl rfl (by kernel_rfl) (by decide) (fun K hK => ?_); refine lu Tryd.func48 (by kernel_rfl) rfl #[.slice A1 l1.length c1] (by rfl) rfl rfl Cc ?_; with_reducible refine (fJ.calls k _ _ l1 t191 _ ?aI ?aN A4.out).mono ?_
     (case aI => exact jB HR1 HB); (case aN => exact rX.out); rintro e w' ⟨rfl, ⟨nd, rfl⟩⟩; refine ⟨_, rfl, ?_⟩; refine hK.out _ _ ⟨(ai dW.out 0).trans rfl, (ai dW.out 1).trans rfl⟩ (fun hHeld => ?_); clear hK K; refine qp 20 ?_; refine N8 (i := 3) (N := some 22) #[true, true, true, true, true, false, false] rfl rfl (by kernel_rfl) (by decide) (fun K hK => ?_); refine lu Tryd.func49 (by kernel_rfl) rfl #[.agg #[.int .i64 au, .slice aZ ah.length aW]] (by rfl) rfl rfl Cc ?_; with_reducible refine (bF.calls k au _ _ ah t192 t193 t196 _ ?aI ?aN A5.out).mono ?_
     (case aI => repeat (first | exact (Kd.bu cz.out (zB HB)) | (with_reducible refine Kd.dY ?_ _) | (with_reducible refine Kd.dZ ?_ _) | (with_reducible refine Kd.fB ?_))); (case aN => exact dX.out); rintro e w9 ⟨v194, Ra, rfl, ho0, ho1, hb⟩; refine ⟨_, rfl, ?_⟩; have Ef := zA (Kd.dw ho0 (aJ (zB HB))); have Eg := zA (Kd.dw ho1 (aJ (zB HB))); replace dW := zA (dn dW hb); replace fG := zA (dn fG hb); replace HB := zA (af (zB HB) hb); refine hK.out _ _ ⟨(ai dW.out 0).trans rfl, (ai dW.out 1).trans rfl⟩ (fun hHeld => ?_); clear hK K; refine qp 22 ?_; exact Jm (vU (v194, Ra, mW) _ ⟨hHeld, (zR Ef), (zR Eg), (zK dW), (zK fG), Nl.out, Jb.out, jv.out, nX.out, (zB HB)⟩)
 rintro ⟨v194, Ra, mW⟩ yu ⟨EW, Df, Dg, Dh, Di, KL, M7, M8, M9, Na⟩; have Ef : ag (Kd.R (Kd.int .u64) 76 yu w.heap.size (fun k_ => some k_ ≠ (Ra : Value).ownBlock) v194 t193) := ⟨Df⟩; have Eg : ag (Kd.R (Kd.int .u64) 76 yu w.heap.size (fun k_ => some k_ ≠ (v194 : Value).ownBlock) Ra t196) := ⟨Dg⟩; have fG : ag (yu.heap[mW]? = some (.cells #[.int .u64 0, .slice none 0 0, .slice none 0 0] 80 (0, 0))) := ⟨Di⟩; have Nl : ag (w.heap.size ≤ mW) := ⟨KL⟩; have Jb : ag (w.heap.size ≤ mW) := ⟨M7⟩; have jv : ag (qY ≠ mW) := ⟨M8⟩; have nX : ag (mW ≠ qY) := ⟨M9⟩; replace dW : ag (yu.heap[qY]? = some (.cells #[.int .i64 au, .slice aZ ah.length aW] 24 (0, 0))) := ⟨Dh⟩; replace HB : ag (Below w.heap.size w yu) := ⟨Na⟩; clear Df Dg Dh Di KL M7 M8 M9 Na; have hHeld : yu.cell? ⟨qY, 0, none⟩ = some (.int .i64 au) ∧ yu.cell? ⟨qY, 1, none⟩ = some (.slice aZ ah.length aW) := EW; obtain ⟨rY, rZ, ⟨⟩⟩ := Ce (Kd.bD Ef.out); obtain ⟨ql, oL, ⟨⟩⟩ := Ce (Kd.bD Eg.out); refine ZC ?_; refine Mf 5 ?_; refine N8 (i := 6) (N := none) #[true, true, true, true, true, true, true] rfl rfl (by kernel_rfl) (by decide) (fun K hK => ?_); have aBP := zc fG 0; have ayF := bU fG.out 0; have asv := jv.out; have asw := nX.out; have aBQ := zc fG 1; have ayG := bU fG.out 1; have asx := jv.out; have asy := nX.out; have aBR := zc fG 2; have ayH := bU fG.out 2; have asz := jv.out; have asA := nX.out; refine IU (w1 := ?_) (by rfl) rfl ?_ ?_; rotate_left; · go_simp; rfl
 refine hK.out _ _ ⟨((cell_far (p := ⟨mW, _, none⟩) jv.out _).trans (((cell_far (p := ⟨mW, _, none⟩) jv.out _).trans (((cell_far (p := ⟨mW, _, none⟩) jv.out _).trans (hHeld.1)))))), ((cell_far (p := ⟨mW, _, none⟩) jv.out _).trans (((cell_far (p := ⟨mW, _, none⟩) jv.out _).trans (((cell_far (p := ⟨mW, _, none⟩) jv.out _).trans (hHeld.2))))))⟩ (fun hHeld => ?_); clear hK K; refine lK (by kernel_rfl) ?_; have aox := jv.out; have aoy := nX.out; obtain ⟨_, _, _, _⟩ := iG dW; try go_wp2
 go_loopg [9, 26] k (fun kq v9 v26 w' => ∃ (iR : List (List (aD))) (gN : Int), v26 = .int .i64 gN ∧ ag (aM.l0 kq l1 a2 t191 iR ah (ah.length : Int) gN au ah t192 t193 t196 = some r) ∧ ag (kq ≤ k) ∧ ag (Kd.S (Kd.slice 42 gm) 22 w' w.heap.size (fun _ => True) v9 iR) ∧ ag (Kd.R (Kd.int .u64) 76 w' w.heap.size (fun k_ => some k_ ≠ ((.slice ql t196.length oL) : Value).ownBlock) (.slice rY t193.length rZ) t193) ∧ ag (Kd.R (Kd.int .u64) 76 w' w.heap.size (fun k_ => some k_ ≠ ((.slice rY t193.length rZ) : Value).ownBlock) (.slice ql t196.length oL) t196) ∧ ag (w'.heap[qY]? = some (.cells #[.int .i64 au, (.slice aZ ah.length aW)] 24 (0, 0))) ∧ ag (w'.heap[mW]? = some (.cells #[.int .u64 t192, (.slice rY t193.length rZ), (.slice ql t196.length oL)] 80 (0, 0))) ∧ ag (Below w.heap.size w w'))
 case atStart => exact ⟨(([] : List (List (aD)))), (0), zv, H', ⟨Nat.le_refl _⟩, ⟨Ab⟩, ⟨by refine jF ?_; exact Kd.aQ (Kd.aT (p := ⟨mW, 2, none⟩) (Kd.aT (p := ⟨mW, 1, none⟩) (Kd.aT (p := ⟨mW, 0, none⟩) (Kd.bJ Ef.out fG.out (by decide)) (fun _ hk => hk.2) (.int .u64 t192)) (fun _ hk => hk.2) (.slice rY t193.length rZ)) (fun _ hk => hk.2) (.slice ql t196.length oL)) (fun _ hk => hk.1)⟩, ⟨by refine jF ?_; exact Kd.aQ (Kd.aT (p := ⟨mW, 2, none⟩) (Kd.aT (p := ⟨mW, 1, none⟩) (Kd.aT (p := ⟨mW, 0, none⟩) (Kd.bJ Eg.out fG.out (by decide)) (fun _ hk => hk.2) (.int .u64 t192)) (fun _ hk => hk.2) (.slice rY t193.length rZ)) (fun _ hk => hk.2) (.slice ql t196.length oL)) (fun _ hk => hk.1)⟩, ⟨by refine iA jv.out ?_; refine iA jv.out ?_; refine iA jv.out ?_; refine zk ?_; exact dW.out⟩, ⟨by refine zk ?_; refine aV (cs := #[.int .u64 t192, .slice rY t193.length rZ, .slice none 0 0]) ?_ 2 _ rfl; refine zk ?_; refine aV (cs := #[.int .u64 t192, .slice none 0 0, .slice none 0 0]) ?_ 1 _ rfl; refine zk ?_; refine aV (cs := #[.int .u64 0, .slice none 0 0, .slice none 0 0]) ?_ 0 _ rfl; refine zk ?_; exact fG.out⟩, ⟨zB HB⟩⟩
 case round =>
  clear H'
  obtain ⟨iR, gN, rfl, HA, iU, fF, dO, dB, dW, fG, HB⟩ := hrel; cases gk with
  | zero => exact absurd HA.out (by simp [aM.l0])
  | succ k1 =>
   have H := HA.out; clear HA; simp only [aM.l0] at H; by_cases c18 : gN < (ah.length : Int)
   · rw [if_pos c18] at H; have abr := decide_eq_true c18; clear c18; by_cases c19 : 0 ≤ gN
     · rw [if_pos c19] at H; have V7 := decide_eq_true c19; clear c19; by_cases c20 : gN < (ah.length : Int)
       · rw [if_pos c20] at H; have Fx := decide_eq_true c20; clear c20; replace H := zE H; obtain ⟨t202, A21, H⟩ := H; (try dsimp only at H); by_cases DZ : t202 = true
         · subst DZ; rw [if_pos rfl] at H; replace H := zE H; obtain ⟨t203, A23, H⟩ := H; (try dsimp only at H); by_cases c24 : t203 = true
           · subst c24; rw [if_pos rfl] at H; obtain ⟨abt, Rb⟩ : ∃ y_ : List (aD), y_ = (([(⟨(aa ah gN).f0, (aa ah gN).f1⟩ : aD)] : List (aD))) := ⟨_, rfl⟩; replace H : (if iR.length < 5864062014805 then (aM.l0 k1 l1 a2 t191 (iR ++ [abt]) ah (ah.length : Int) (wrap64 (gN + 1)) au ah t192 t193 t196) else (none)) = some r := by first | (rw [Rb]; with_reducible exact H) | (have iW := (Option.bind_some _ _).symm.trans H; rw [Rb]; with_reducible exact iW) | (have iW := (Option.bind_some _ _).symm.trans H; with_reducible exact iW) | with_reducible exact H | (rw [Rb]; exact H) | exact H
             have agz := zA Rb; clear Rb; by_cases JB : iR.length < 5864062014805
             · rw [if_pos JB] at H; have aoz := zA JB; clear JB; obtain ⟨aoA, Rc⟩ : ∃ y_ : List (List (aD)), y_ = (iR ++ [abt]) := ⟨_, rfl⟩; replace H : (aM.l0 k1 l1 a2 t191 aoA ah (ah.length : Int) (wrap64 (gN + 1)) au ah t192 t193 t196) = some r := by first | (rw [Rc]; with_reducible exact H) | (have iW := (Option.bind_some _ _).symm.trans H; rw [Rc]; with_reducible exact iW) | (have iW := (Option.bind_some _ _).symm.trans H; with_reducible exact iW) | with_reducible exact H | (rw [Rc]; exact H) | exact H
               have aoB := zA Rc; clear Rc; have H' := zA H; clear H; have KV : 0 ≤ (gN : Int) := zo; have KW : gN < (ah.length : Int) := zo; obtain ⟨WE, abu, yV, yX⟩ := eG cz.out gN KV KW; cases abu; replace yV := (zx HB yV :); replace yX := (zx HB yX :); replace KV := eq_true KV; replace KW := eq_true KW; go_wp2_with (first | ((with_reducible refine aH (N := 11) rfl ?_); refine zX (N := 11) (cs := #[.int .i64 0, .int .i64 0]) (t := 42) ?_; intro nI hg w26 aG hb; have uO := zA (aG); have agA := zA (zW hg HB); have agB := zA (zW hg HB); have pV := zA (lZ hg dW); have Ay := zA (l5 hg dW); have pW := zA (lZ hg fG); have Az := zA (l5 hg fG); replace fF := zA (Kd.iY (Kd.zY (zS fF) nI (Nat.le_of_eq hg.symm)) hb); replace dO := zA (Kd.bf (zR dO) hb); replace dB := zA (Kd.bf (zR dB) hb); replace dW := zA (dn dW hb); replace fG := zA (dn fG hb); replace HB := zA (af (zB HB) hb); clear hb aG hg; have ayJ := Ay.out; have ayK := pV.out; have an6 := Az.out; have an7 := pW.out; obtain ⟨_, _, _, _⟩ := iG uO) | ((with_reducible refine ay (f := 77) rfl ?_); refine zG (some 33) rfl Tryd.func77 #[.int .u64 t191, .int .i64 ((aa ah gN).f0)] ?_; (with_reducible refine (cO.calls t191 ((aa ah gN).f0) true _ A21.out).mono ?_); rintro e w' ⟨rfl, ⟨nd, rfl⟩⟩; refine ⟨_, rfl, ?_⟩) | (go_at_call 77; (with_reducible refine (cO.calls t191 ((aa ah gN).f1) true _ A23.out).mono ?_); rintro e w' ⟨rfl, ⟨nd, rfl⟩⟩) | ((with_reducible refine aH (N := 42) rfl ?_); refine Kd.IP gm _ 42 ?hg (N := 42) ?hd (xs := ([(⟨(aa ah gN).f0, (aa ah gN).f1⟩ : aD)] : List (aD))) (inner := [.int .i64 ((aa ah gN).f0), .int .i64 ((aa ah gN).f1)]) (ok := fun _ => True) (tX := fun _ => True) ?hr ?hp (fun _ hk => hk) trivial (Below.refl _ _) (Nat.le_refl _) (by simp) ?_; (case hd => rfl); (case hg => rfl); (case hr => first | (go_simp; done) | (go_simp; rfl)); (case hp => exact (gP.c2 (show Kd.M gm _ _ _ (⟨(aa ah gN).f0, (aa ah gN).f1⟩ : aD) [.int .i64 ((aa ah gN).f0), .int .i64 ((aa ah gN).f1)] from (mR _ _ _ (⟨(aa ah gN).f0, (aa ah gN).f1⟩ : aD) )) (gP.none _ _))); intro aBS w30 Y6 hb Ac lS; clear Ac lS; (first | rw [← agz.out] at Y6 | (simp only [Int.reduceToNat] at Y6; rw [← agz.out] at Y6)); have WG := zA (Kd.dw (Kd.GY Y6 (g := nI) (o := .cells #[.int .i64 ((aa ah gN).f0), .int .i64 ((aa ah gN).f1)] 42 (0, 0)) (by refine zk ?_; refine aV (cs := #[.int .i64 ((aa ah gN).f0), .int .i64 0]) ?_ 1 _ rfl; refine zk ?_; refine aV (cs := #[.int .i64 0, .int .i64 0]) ?_ 0 _ rfl; refine zk ?_; exact uO.out)) (aJ (zB HB))); replace fF := zA (Kd.yf (by refine sM ?_; exact (Kd.dF (Kd.eB (p := ⟨nI, 1, none⟩) (Kd.eB (p := ⟨nI, 0, none⟩) (Kd.dF fF.out (fun k_ hk => (⟨hk, hk.2⟩ : _ ∧ k_ ≠ nI))) (fun _ hk => hk.2) (.int .i64 ((aa ah gN).f0))) (fun _ hk => hk.2) (.int .i64 ((aa ah gN).f1))) (fun _ h_ => h_.1))) (Kd.fe Y6) hb); replace dO := zA (Kd.bf (by refine jF ?_; exact (Kd.aQ (Kd.aT (p := ⟨nI, 1, none⟩) (Kd.aT (p := ⟨nI, 0, none⟩) (Kd.bJ dO.out uO.out (by decide)) (fun _ hk => hk.2) (.int .i64 ((aa ah gN).f0))) (fun _ hk => hk.2) (.int .i64 ((aa ah gN).f1))) (fun _ h_ => h_.1))) hb); replace dB := zA (Kd.bf (by refine jF ?_; exact (Kd.aQ (Kd.aT (p := ⟨nI, 1, none⟩) (Kd.aT (p := ⟨nI, 0, none⟩) (Kd.bJ dB.out uO.out (by decide)) (fun _ hk => hk.2) (.int .i64 ((aa ah gN).f0))) (fun _ hk => hk.2) (.int .i64 ((aa ah gN).f1))) (fun _ h_ => h_.1))) hb); replace dW := zA (fo (g := qY) (o := .cells #[.int .i64 au, .slice (some WE) ah.length aW] 24 (0, 0)) (by refine iA pV.out ?_; refine iA pV.out ?_; refine zk ?_; exact dW.out) hb); replace fG := zA (fo (g := mW) (o := .cells #[.int .u64 t192, .slice rY t193.length rZ, .slice ql t196.length oL] 80 (0, 0)) (by refine iA pW.out ?_; refine iA pW.out ?_; refine zk ?_; exact fG.out) hb); replace uO := zA (fo (g := nI) (o := .cells #[.int .i64 ((aa ah gN).f0), .int .i64 ((aa ah gN).f1)] 42 (0, 0)) (by refine zk ?_; refine aV (cs := #[.int .i64 ((aa ah gN).f0), .int .i64 0]) ?_ 1 _ rfl; refine zk ?_; refine aV (cs := #[.int .i64 0, .int .i64 0]) ?_ 0 _ rfl; refine zk ?_; exact uO.out) hb); replace HB := zA (af (zB HB) hb); clear hb Y6; obtain ⟨aeH, aeI, ajZ⟩ := Kd.bD WG.out; subst ajZ) | ((with_reducible refine fZ (b := .append) (xs := #[.tmp 40, .tmp 43]) rfl ?_); at_builtin; refine Kd.CL (Kd.slice 42 gm) (w0 := w) w.heap.size rfl (.tmp 40) (.tmp 43) 26 22 (.slice none 0 0) 24 rfl Tryd.underlying26 Kl rfl (by decide) (by omega) u9 iR abt [.slice aeH abt.length aeI] (fun k_ => k_ ≠ nI) (fun k_ => some k_ = (.slice aeH abt.length aeI : Value).ownBlock) rfl rfl ?aP (fun k_ CF => ((Kd.aQ (ok' := fun k_ => ((fun k_ => k_ ≠ nI)) k_ ∧ some k_ ≠ (u9 : Value).ownBlock) (Kd.oC (WG.out) (Kd.o6 fF.out) (by decide)) (fun k_ hk => ⟨hk.1.2, hk.2⟩))).1 k_ CF.symm) ?aF ?aO ?aB ?aS ?aL ?_; (case aP => exact Kd.Qg (Kd.aQ (Kd.wS rfl (Kd.aQ (ok' := fun k_ => ((fun k_ => k_ ≠ nI)) k_ ∧ some k_ ≠ (u9 : Value).ownBlock) (Kd.oC (WG.out) (Kd.o6 fF.out) (by decide)) (fun k_ hk => ⟨hk.1.2, hk.2⟩))) (fun _ h_ => h_))); (case aB => exact (zB HB)); (case aF => exact (fun k_ hk => Kd.ug (g := nI) (o := .cells #[.int .i64 ((aa ah gN).f0), .int .i64 ((aa ah gN).f1)] 42 (0, 0)) (zK uO) k_ hk)); (case aO => exact (by refine sM ?_; exact Kd.dF fF.out (fun k_ hk => ⟨hk.1.2, fun e_ => hk.2 e_⟩))); (case aS => exact (aJ (zB HB))); (case aL => have := aoz.out; omega); intro v208 w32 ho hb hg hat; rw [← aoB.out] at ho; have aoD := zA (ho); replace dO := zA (Kd.oH (zR dO) (Kd.o6 (zS fF)) (by decide) hg); replace dB := zA (Kd.oH (zR dB) (Kd.o6 (zS fF)) (by decide) hg); replace dW := zA (bZ (g := qY) (o := .cells #[.int .i64 au, .slice (some WE) ah.length aW] 24 (0, 0)) (zK dW) hg (Kd.Oa fF.out dW.out (by decide))); replace fG := zA (bZ (g := mW) (o := .cells #[.int .u64 t192, .slice rY t193.length rZ, .slice ql t196.length oL] 80 (0, 0)) (zK fG) hg (Kd.Oa fF.out fG.out (by decide))); replace uO := zA (bZ (g := nI) (o := .cells #[.int .i64 ((aa ah gN).f0), .int .i64 ((aa ah gN).f1)] 42 (0, 0)) (zK uO) hg (Kd.Oa fF.out uO.out (by decide))); replace HB := zA (hb); clear fF WG; clear ho hb hg hat)); go_roundg k1
               case measure => have := iU.out; omega
               case rel => exact ⟨(aoA), (wrap64 (gN + 1)), zv, H', ⟨by have := iU.out; omega⟩, ⟨by refine sM ?_; exact Kd.dF aoD.out (fun _ hk => trivial)⟩, ⟨zR dO⟩, ⟨zR dB⟩, ⟨zK dW⟩, ⟨zK fG⟩, ⟨zB HB⟩⟩
             · rw [if_neg JB] at H; exact absurd H (by simp)
           · replace c24 := Bool.eq_false_iff.mpr c24; subst c24; rw [if_neg (show ¬ (false = true) by decide)] at H; have H' := zA H; clear H; have KV : 0 ≤ (gN : Int) := zo; have KW : gN < (ah.length : Int) := zo; obtain ⟨WE, abu, yV, yX⟩ := eG cz.out gN KV KW; cases abu; replace yV := (zx HB yV :); replace yX := (zx HB yX :); replace KV := eq_true KV; replace KW := eq_true KW; go_wp2_with (first | ((with_reducible refine aH (N := 11) rfl ?_); refine zX (N := 11) (cs := #[.int .i64 0, .int .i64 0]) (t := 42) ?_; intro nI hg w34 aG hb; have uO := zA (aG); have agA := zA (zW hg HB); have agB := zA (zW hg HB); have pV := zA (lZ hg dW); have Ay := zA (l5 hg dW); have pW := zA (lZ hg fG); have Az := zA (l5 hg fG); replace fF := zA (Kd.iY (Kd.zY (zS fF) nI (Nat.le_of_eq hg.symm)) hb); replace dO := zA (Kd.bf (zR dO) hb); replace dB := zA (Kd.bf (zR dB) hb); replace dW := zA (dn dW hb); replace fG := zA (dn fG hb); replace HB := zA (af (zB HB) hb); clear hb aG hg; have abv := Ay.out; have abw := pV.out; have Wd := Az.out; have We := pW.out; obtain ⟨_, _, _, _⟩ := iG uO) | ((with_reducible refine ay (f := 77) rfl ?_); refine zG (some 33) rfl Tryd.func77 #[.int .u64 t191, .int .i64 ((aa ah gN).f0)] ?_; (with_reducible refine (cO.calls t191 ((aa ah gN).f0) true _ A21.out).mono ?_); rintro e w' ⟨rfl, ⟨nd, rfl⟩⟩; refine ⟨_, rfl, ?_⟩) | (go_at_call 77; (with_reducible refine (cO.calls t191 ((aa ah gN).f1) false _ A23.out).mono ?_); rintro e w' ⟨rfl, ⟨nd, rfl⟩⟩)); go_roundg k1
             case measure => have := iU.out; omega
             case rel => exact ⟨(iR), (wrap64 (gN + 1)), zv, H', ⟨by have := iU.out; omega⟩, ⟨by refine sM ?_; exact Kd.dF (Kd.eB (p := ⟨nI, 1, none⟩) (Kd.eB (p := ⟨nI, 0, none⟩) (Kd.dF fF.out (fun k_ hk => (⟨hk, hk.2⟩ : _ ∧ k_ ≠ nI))) (fun _ hk => hk.2) (.int .i64 ((aa ah gN).f0))) (fun _ hk => hk.2) (.int .i64 ((aa ah gN).f1))) (fun _ hk => trivial)⟩, ⟨by refine jF ?_; exact Kd.aQ (Kd.aT (p := ⟨nI, 1, none⟩) (Kd.aT (p := ⟨nI, 0, none⟩) (Kd.bJ dO.out uO.out (by decide)) (fun _ hk => hk.2) (.int .i64 ((aa ah gN).f0))) (fun _ hk => hk.2) (.int .i64 ((aa ah gN).f1))) (fun _ hk => hk.1)⟩, ⟨by refine jF ?_; exact Kd.aQ (Kd.aT (p := ⟨nI, 1, none⟩) (Kd.aT (p := ⟨nI, 0, none⟩) (Kd.bJ dB.out uO.out (by decide)) (fun _ hk => hk.2) (.int .i64 ((aa ah gN).f0))) (fun _ hk => hk.2) (.int .i64 ((aa ah gN).f1))) (fun _ hk => hk.1)⟩, ⟨by refine iA pV.out ?_; refine iA pV.out ?_; refine zk ?_; exact dW.out⟩, ⟨by refine iA pW.out ?_; refine iA pW.out ?_; refine zk ?_; exact fG.out⟩, ⟨zB HB⟩⟩
         · replace DZ := Bool.eq_false_iff.mpr DZ; subst DZ; rw [if_neg (show ¬ (false = true) by decide)] at H; have H' := zA H; clear H; have KV : 0 ≤ (gN : Int) := zo; have KW : gN < (ah.length : Int) := zo; obtain ⟨WE, abu, yV, yX⟩ := eG cz.out gN KV KW; cases abu; replace yV := (zx HB yV :); replace yX := (zx HB yX :); replace KV := eq_true KV; replace KW := eq_true KW; go_wp2_with (first | ((with_reducible refine aH (N := 11) rfl ?_); refine zX (N := 11) (cs := #[.int .i64 0, .int .i64 0]) (t := 42) ?_; intro nI hg w38 aG hb; have uO := zA (aG); have agA := zA (zW hg HB); have agB := zA (zW hg HB); have pV := zA (lZ hg dW); have Ay := zA (l5 hg dW); have pW := zA (lZ hg fG); have Az := zA (l5 hg fG); replace fF := zA (Kd.iY (Kd.zY (zS fF) nI (Nat.le_of_eq hg.symm)) hb); replace dO := zA (Kd.bf (zR dO) hb); replace dB := zA (Kd.bf (zR dB) hb); replace dW := zA (dn dW hb); replace fG := zA (dn fG hb); replace HB := zA (af (zB HB) hb); clear hb aG hg; have abx := Ay.out; have aby := pV.out; have abz := Az.out; have abA := pW.out; obtain ⟨_, _, _, _⟩ := iG uO) | ((with_reducible refine ay (f := 77) rfl ?_); refine zG (some 33) rfl Tryd.func77 #[.int .u64 t191, .int .i64 ((aa ah gN).f0)] ?_; (with_reducible refine (cO.calls t191 ((aa ah gN).f0) false _ A21.out).mono ?_); rintro e w' ⟨rfl, ⟨nd, rfl⟩⟩; refine ⟨_, rfl, ?_⟩)); go_roundg k1
           case measure => have := iU.out; omega
           case rel => exact ⟨(iR), (wrap64 (gN + 1)), zv, H', ⟨by have := iU.out; omega⟩, ⟨by refine sM ?_; exact Kd.dF (Kd.eB (p := ⟨nI, 1, none⟩) (Kd.eB (p := ⟨nI, 0, none⟩) (Kd.dF fF.out (fun k_ hk => (⟨hk, hk.2⟩ : _ ∧ k_ ≠ nI))) (fun _ hk => hk.2) (.int .i64 ((aa ah gN).f0))) (fun _ hk => hk.2) (.int .i64 ((aa ah gN).f1))) (fun _ hk => trivial)⟩, ⟨by refine jF ?_; exact Kd.aQ (Kd.aT (p := ⟨nI, 1, none⟩) (Kd.aT (p := ⟨nI, 0, none⟩) (Kd.bJ dO.out uO.out (by decide)) (fun _ hk => hk.2) (.int .i64 ((aa ah gN).f0))) (fun _ hk => hk.2) (.int .i64 ((aa ah gN).f1))) (fun _ hk => hk.1)⟩, ⟨by refine jF ?_; exact Kd.aQ (Kd.aT (p := ⟨nI, 1, none⟩) (Kd.aT (p := ⟨nI, 0, none⟩) (Kd.bJ dB.out uO.out (by decide)) (fun _ hk => hk.2) (.int .i64 ((aa ah gN).f0))) (fun _ hk => hk.2) (.int .i64 ((aa ah gN).f1))) (fun _ hk => hk.1)⟩, ⟨by refine iA pV.out ?_; refine iA pV.out ?_; refine zk ?_; exact dW.out⟩, ⟨by refine iA pW.out ?_; refine iA pW.out ?_; refine zk ?_; exact fG.out⟩, ⟨zB HB⟩⟩
       · rw [if_neg c20] at H; exact absurd H (by simp)
     · rw [if_neg c19] at H; exact absurd H (by simp)
   · rw [if_neg c18] at H; have abr := decide_eq_false c18; clear c18; replace H := zE H; obtain ⟨t210, A42, H⟩ := H; (try dsimp only at H); have H' := zA H; clear H; have Wq := nX.out; have Ws := jv.out; obtain ⟨_, _, _, _, _, _⟩ := nG fG; go_wp2_with (first | ((with_reducible refine ay (f := 79) rfl ?_); refine zG (some 48) rfl Tryd.func79 #[.agg #[.int .u64 t192, .slice rY t193.length rZ, .slice ql t196.length oL], .int .u64 t191] ?_; (with_reducible refine (dM.calls k1 t192 _ _ t193 _ _ t196 t191 t210 _ ?aI ?aN ?bS ?bT ?jh A42.out).mono ?_); (case aI => repeat (first | exact (Kd.aU dO.out).2.2 | (with_reducible refine Kd.dY ?_ _) | (with_reducible refine Kd.dZ ?_ _) | (with_reducible refine Kd.fB ?_))); (case aN => exact (Kd.aU dO.out).2.1); (case bS => repeat (first | exact (Kd.aU dB.out).2.2 | (with_reducible refine Kd.dY ?_ _) | (with_reducible refine Kd.dZ ?_ _) | (with_reducible refine Kd.fB ?_))); (case bT => exact (Kd.aU dB.out).2.1); (case jh => exact kQ.now lM.out (zB HB)); rintro e w45 ⟨rfl, hb⟩; refine ⟨_, rfl, ?_⟩; replace fF := zA (Kd.iY (zS fF) hb); replace dO := zA (Kd.bf (zR dO) hb); replace dB := zA (Kd.bf (zR dB) hb); replace dW := zA (dn dW hb); replace fG := zA (dn fG hb); replace HB := zA (af (zB HB) hb); obtain ⟨_, _, _, _⟩ := iG dW)); go_loopg [9, 51] k1 (fun kq v9 v51 w' => ∃ (oM : List (List (aD))) (jE : Int), v51 = .int .i64 jE ∧ ag (aM.l1 kq l1 a2 t191 oM t210 au jE t192 t193 t196 = some r) ∧ ag (kq ≤ k1) ∧ ag (Kd.S (Kd.slice 42 gm) 22 w' w.heap.size (fun _ => True) v9 oM) ∧ ag (Kd.R (Kd.int .u64) 76 w' w.heap.size (fun k_ => some k_ ≠ ((.slice ql t196.length oL) : Value).ownBlock) (.slice rY t193.length rZ) t193) ∧ ag (Kd.R (Kd.int .u64) 76 w' w.heap.size (fun k_ => some k_ ≠ ((.slice rY t193.length rZ) : Value).ownBlock) (.slice ql t196.length oL) t196) ∧ ag (w'.heap[qY]? = some (.cells #[.int .i64 au, (.slice aZ ah.length aW)] 24 (0, 0))) ∧ ag (w'.heap[mW]? = some (.cells #[.int .u64 t192, (.slice rY t193.length rZ), (.slice ql t196.length oL)] 80 (0, 0))) ∧ ag (Below w.heap.size w w'))
     case atStart => exact ⟨(iR), (0), zv, H', ⟨Nat.le_refl _⟩, ⟨zS fF⟩, ⟨zR dO⟩, ⟨zR dB⟩, ⟨zK dW⟩, ⟨zK fG⟩, ⟨zB HB⟩⟩
     case round =>
      clear H'
      obtain ⟨oM, jE, rfl, HA, mo, fF, dO, dB, dW, fG, HB⟩ := hrel; cases gk with
      | zero => exact absurd HA.out (by simp [aM.l1])
      | succ k2 =>
       have H := HA.out; clear HA; simp only [aM.l1] at H; by_cases KX : jE < au
       · rw [if_pos KX] at H; have WH := decide_eq_true KX; clear KX; have aj0 := zA H; clear H; go_upto_region 13 with (fail)
         go_cut [75] (fun v75 wc => ∃ (kq : Nat) (OO : Bool), v75 = .bool OO ∧ ag (aM.j2 kq l1 a2 t191 oM t210 jE au jE OO t192 t193 t196 = some r) ∧ ag (kq ≤ k2) ∧ ag (Kd.S (Kd.slice 42 gm) 22 wc w.heap.size (fun _ => True) u9 oM) ∧ ag (Kd.R (Kd.int .u64) 76 wc w.heap.size (fun k_ => some k_ ≠ ((.slice ql t196.length oL) : Value).ownBlock) (.slice rY t193.length rZ) t193) ∧ ag (Kd.R (Kd.int .u64) 76 wc w.heap.size (fun k_ => some k_ ≠ ((.slice rY t193.length rZ) : Value).ownBlock) (.slice ql t196.length oL) t196) ∧ ag (wc.heap[qY]? = some (.cells #[.int .i64 au, (.slice aZ ah.length aW)] 24 (0, 0))) ∧ ag (wc.heap[mW]? = some (.cells #[.int .u64 t192, (.slice rY t193.length rZ), (.slice ql t196.length oL)] 80 (0, 0))) ∧ ag (Below w.heap.size w wc))
         case first =>
          have H := aj0.out; clear aj0; replace H := zE H; obtain ⟨t211, A49, H⟩ := H; (try dsimp only at H); by_cases WI : t211 = true
          · subst WI; rw [if_pos rfl] at H; have H' := zA H; clear H; go_wp2_with (first | ((with_reducible refine ay (f := 77) rfl ?_); refine zG (some 56) rfl Tryd.func77 #[.int .u64 t191, .int .i64 jE] ?_; (with_reducible refine (cO.calls t191 jE true _ A49.out).mono ?_); rintro e w' ⟨rfl, ⟨nd, rfl⟩⟩; refine ⟨_, rfl, ?_⟩)); go_meet
            case rel => exact ⟨_, (true), zv, H', ⟨by have := iU.out; have := mo.out; first | omega | exact Nat.le_refl _⟩, ⟨zS fF⟩, ⟨zR dO⟩, ⟨zR dB⟩, ⟨zK dW⟩, ⟨zK fG⟩, ⟨zB HB⟩⟩
          · replace WI := Bool.eq_false_iff.mpr WI; subst WI; rw [if_neg (show ¬ (false = true) by decide)] at H; replace H := zE H; obtain ⟨t212, A51, H⟩ := H; (try dsimp only at H); by_cases c52 : t212 = true
            · subst c52; rw [if_pos rfl] at H; have H' := zA H; clear H; go_wp2_with (first | ((with_reducible refine ay (f := 77) rfl ?_); refine zG (some 56) rfl Tryd.func77 #[.int .u64 t191, .int .i64 jE] ?_; (with_reducible refine (cO.calls t191 jE false _ A49.out).mono ?_); rintro e w' ⟨rfl, ⟨nd, rfl⟩⟩; refine ⟨_, rfl, ?_⟩) | (go_at_call 77; (with_reducible refine (cO.calls t210 jE true _ A51.out).mono ?_); rintro e w' ⟨rfl, ⟨nd, rfl⟩⟩)); go_meet
              case rel => exact ⟨_, (true), zv, H', ⟨by have := iU.out; have := mo.out; first | omega | exact Nat.le_refl _⟩, ⟨zS fF⟩, ⟨zR dO⟩, ⟨zR dB⟩, ⟨zK dW⟩, ⟨zK fG⟩, ⟨zB HB⟩⟩
            · replace c52 := Bool.eq_false_iff.mpr c52; subst c52; rw [if_neg (show ¬ (false = true) by decide)] at H; by_cases c53 : a2 = 1
              · rw [if_pos c53] at H; have Re : (a2 == 1) = true := beq_iff_eq.mpr c53; have aoE : (a2 != 1) = false := bne_eq_false_iff_eq.mpr c53; clear c53; (first | rw [Re] | (simp only [nE, qJ]; rw [Re]) | skip); by_cases c54 : 0 ≤ jE
                · rw [if_pos c54] at H; have ayM := decide_eq_true c54; clear c54; by_cases c55 : jE < (t196.length : Int)
                  · rw [if_pos c55] at H; have ayN := decide_eq_true c55; clear c55; have H' := zA H; clear H; go_wp2_with (first | ((with_reducible refine ay (f := 77) rfl ?_); refine zG (some 56) rfl Tryd.func77 #[.int .u64 t191, .int .i64 jE] ?_; (with_reducible refine (cO.calls t191 jE false _ A49.out).mono ?_); rintro e w' ⟨rfl, ⟨nd, rfl⟩⟩; refine ⟨_, rfl, ?_⟩) | (go_at_call 77; (with_reducible refine (cO.calls t210 jE false _ A51.out).mono ?_); rintro e w' ⟨rfl, ⟨nd, rfl⟩⟩; have aa7 := nX.out; have aa8 := jv.out; obtain ⟨_, _, _, _, _, _⟩ := nG fG; have aj2 : 0 ≤ (jE : Int) := zo; have aj3 : jE < (t196.length : Int) := zo; obtain ⟨ayO, e213, asD⟩ := Kd.eP (Kd.aU dB.out).2.2 jE aj2 aj3; cases e213; replace aj2 := eq_true aj2; replace aj3 := eq_true aj3)); go_meet
                    case rel => exact ⟨_, (((Go.bits .and .u64 (rd t196 jE) t191) == 0)), zv, H', ⟨by have := iU.out; have := mo.out; first | omega | exact Nat.le_refl _⟩, ⟨zS fF⟩, ⟨zR dO⟩, ⟨zR dB⟩, ⟨zK dW⟩, ⟨zK fG⟩, ⟨zB HB⟩⟩
                  · rw [if_neg c55] at H; exact absurd H (by simp)
                · rw [if_neg c54] at H; exact absurd H (by simp)
              · rw [if_neg c53] at H; have Re : (a2 == 1) = false := beq_eq_false_iff_ne.mpr c53; have aoE : (a2 != 1) = true := bne_iff_ne.mpr c53; (first | rw [Re] | (simp only [nE, qJ]; rw [Re]) | skip); have H' := zA H; clear H; go_wp2_with (first | ((with_reducible refine ay (f := 77) rfl ?_); refine zG (some 56) rfl Tryd.func77 #[.int .u64 t191, .int .i64 jE] ?_; (with_reducible refine (cO.calls t191 jE false _ A49.out).mono ?_); rintro e w' ⟨rfl, ⟨nd, rfl⟩⟩; refine ⟨_, rfl, ?_⟩) | (go_at_call 77; (with_reducible refine (cO.calls t210 jE false _ A51.out).mono ?_); rintro e w' ⟨rfl, ⟨nd, rfl⟩⟩)); go_meet
                case rel => exact ⟨_, (false), zv, H', ⟨by have := iU.out; have := mo.out; first | omega | exact Nat.le_refl _⟩, ⟨zS fF⟩, ⟨zR dO⟩, ⟨zR dB⟩, ⟨zK dW⟩, ⟨zK fG⟩, ⟨zB HB⟩⟩
         case rest =>
          clear aj0
          obtain ⟨kq, OO, rfl, HA, Mm, fF, dO, dB, dW, fG, HB⟩ := hcut; cases kq with
          | zero => exact absurd HA.out (by simp [aM.j2])
          | succ aj4 =>
           have H := HA.out; clear HA; simp only [aM.j2] at H; by_cases c58 : OO = true
           · subst c58; rw [if_pos rfl] at H; have H' := zA H; clear H; go_wp2; go_roundg aj4
             case measure => have := iU.out; have := mo.out; have := Mm.out; omega
             case rel => exact ⟨(oM), (wrap64 (jE + 1)), zv, H', ⟨by have := iU.out; have := mo.out; have := Mm.out; omega⟩, ⟨zS fF⟩, ⟨zR dO⟩, ⟨zR dB⟩, ⟨zK dW⟩, ⟨zK fG⟩, ⟨zB HB⟩⟩
           · replace c58 := Bool.eq_false_iff.mpr c58; subst c58; rw [if_neg (show ¬ (false = true) by decide)] at H; have H' := zA H; clear H; go_wp2; go_loopg [14, 78] aj4 (fun kq v14 v78 w' => ∃ (yY : List (aD)) (yA : Int), v78 = .int .i64 yA ∧ ag (aM.l2 kq l1 a2 t191 oM t210 jE yY au jE l1 (l1.length : Int) yA t192 t193 t196 = some r) ∧ ag (kq ≤ aj4) ∧ ag (Kd.S (Kd.slice 42 gm) 22 w' w.heap.size (fun k_ => some k_ ≠ (v14 : Value).ownBlock) u9 oM) ∧ ag (Kd.R gm 42 w' w.heap.size (fun _ => True) v14 yY) ∧ ag (Kd.R (Kd.int .u64) 76 w' w.heap.size (fun k_ => some k_ ≠ ((.slice ql t196.length oL) : Value).ownBlock) (.slice rY t193.length rZ) t193) ∧ ag (Kd.R (Kd.int .u64) 76 w' w.heap.size (fun k_ => some k_ ≠ ((.slice rY t193.length rZ) : Value).ownBlock) (.slice ql t196.length oL) t196) ∧ ag (w'.heap[qY]? = some (.cells #[.int .i64 au, (.slice aZ ah.length aW)] 24 (0, 0))) ∧ ag (w'.heap[mW]? = some (.cells #[.int .u64 t192, (.slice rY t193.length rZ), (.slice ql t196.length oL)] 80 (0, 0))) ∧ ag (Below w.heap.size w w'))
             case atStart => exact ⟨(([] : List (aD))), (0), zv, H', ⟨Nat.le_refl _⟩, ⟨by refine sM ?_; exact Kd.dF fF.out (fun _ hk => (by simp [Value.ownBlock]))⟩, ⟨Ab⟩, ⟨zR dO⟩, ⟨zR dB⟩, ⟨zK dW⟩, ⟨zK fG⟩, ⟨zB HB⟩⟩
             case round =>
              clear H'
              obtain ⟨yY, yA, rfl, HA, OP, fF, eU, dO, dB, dW, fG, HB⟩ := hrel; cases gk with
              | zero => exact absurd HA.out (by simp [aM.l2])
              | succ k4 =>
               have H := HA.out; clear HA; simp only [aM.l2] at H; by_cases c59 : yA < (l1.length : Int)
               · rw [if_pos c59] at H; have aoF := decide_eq_true c59; clear c59; by_cases c60 : 0 ≤ yA
                 · rw [if_pos c60] at H; have agC := decide_eq_true c60; clear c60; by_cases c61 : yA < (l1.length : Int)
                   · rw [if_pos c61] at H; have aoG := decide_eq_true c61; clear c61; by_cases c62 : yY.length < 8796093022208
                     · rw [if_pos c62] at H; have abC := zA c62; clear c62; obtain ⟨aoH, Rf⟩ : ∃ y_ : List (aD), y_ = (yY ++ [(⟨rd l1 yA, jE⟩ : aD)]) := ⟨_, rfl⟩; replace H : (aM.l2 k4 l1 a2 t191 oM t210 jE aoH au jE l1 (l1.length : Int) (wrap64 (yA + 1)) t192 t193 t196) = some r := by first | (rw [Rf]; with_reducible exact H) | (have iW := (Option.bind_some _ _).symm.trans H; rw [Rf]; with_reducible exact iW) | (have iW := (Option.bind_some _ _).symm.trans H; with_reducible exact iW) | with_reducible exact H | (rw [Rf]; exact H) | exact H
                       have aoI := zA Rf; clear Rf; have H' := zA H; clear H; have aj5 : 0 ≤ (yA : Int) := zo; have aj6 : yA < (l1.length : Int) := zo; obtain ⟨ayP, e214, WJ⟩ := Kd.eP HR1.out yA aj5 aj6; cases e214; replace WJ := (zx HB WJ :); replace aj5 := eq_true aj5; replace aj6 := eq_true aj6; go_wp2_with (first | ((with_reducible refine fZ (b := .append) (xs := #[.tmp 82, .tmp 86]) rfl ?_); at_builtin; refine Kd.oz gm (w0 := w) w.heap.size rfl (.tmp 82) (.tmp 86) 22 42 (.agg #[(.int .i64 0), (.int .i64 0)]) 16 rfl Tryd.underlying22 nA rfl (by decide) (by omega) u14 yY (⟨rd l1 yA, jE⟩ : aD) [.int .i64 (rd l1 yA), .int .i64 jE] (fun _ => True) (fun _ => False) rfl rfl ?aP (fun _ hk => hk.elim) ?aF ?aO ?aB ?aS ?aL ?_; (case aP => exact mR _ _ _ (⟨rd l1 yA, jE⟩ : aD)); (case aB => exact (zB HB)); (case aF => exact (fun _ _ => trivial)); (case aO => exact (zR eU)); (case aS => exact (aJ (zB HB))); (case aL => have := abC.out; omega); intro aBV w63 ho hb hg hat; rw [← aoI.out] at ho; have aoK := zA (ho); replace fF := zA (Kd.wT (ok := (fun _ => True)) (by refine sM ?_; exact Kd.dF fF.out (fun _ hk => ⟨trivial, hk⟩)) hg hat); replace dO := zA (Kd.oH (zR dO) (Kd.nM (zR eU)) (by decide) hg); replace dB := zA (Kd.oH (zR dB) (Kd.nM (zR eU)) (by decide) hg); replace dW := zA (bZ (g := qY) (o := .cells #[.int .i64 au, .slice aZ ah.length aW] 24 (0, 0)) (zK dW) hg (Kd.oK eU.out dW.out (by decide))); replace fG := zA (bZ (g := mW) (o := .cells #[.int .u64 t192, .slice rY t193.length rZ, .slice ql t196.length oL] 80 (0, 0)) (zK fG) hg (Kd.oK eU.out fG.out (by decide))); replace HB := zA (hb); clear eU; clear ho hb hg hat)); go_roundg k4
                       case measure => have := iU.out; have := mo.out; have := Mm.out; have := OP.out; omega
                       case rel => exact ⟨(aoH), (wrap64 (yA + 1)), zv, H', ⟨by have := iU.out; have := mo.out; have := Mm.out; have := OP.out; omega⟩, ⟨by refine sM ?_; exact Kd.dF fF.out (fun _ hk => hk.2)⟩, ⟨zR aoK⟩, ⟨zR dO⟩, ⟨zR dB⟩, ⟨zK dW⟩, ⟨zK fG⟩, ⟨zB HB⟩⟩
                     · rw [if_neg c62] at H; exact absurd H (by simp)
                   · rw [if_neg c61] at H; exact absurd H (by simp)
                 · rw [if_neg c60] at H; exact absurd H (by simp)
               · rw [if_neg c59] at H; have aoF := decide_eq_false c59; clear c59; by_cases c64 : a2 = 1
                 · rw [if_pos c64] at H; have aoL : (a2 == 1) = true := beq_iff_eq.mpr c64; have aoM : (a2 != 1) = false := bne_eq_false_iff_eq.mpr c64; clear c64; by_cases c65 : 0 ≤ jE
                   · rw [if_pos c65] at H; have ayQ := decide_eq_true c65; clear c65; by_cases c66 : jE < (t196.length : Int)
                     · rw [if_pos c66] at H; have ayR := decide_eq_true c66; clear c66; replace H := zE H; obtain ⟨t219, A67, H⟩ := H; (try dsimp only at H); have H' := zA H; clear H; have agD := nX.out; have agE := jv.out; obtain ⟨_, _, _, _, _, _⟩ := nG fG; have aj7 : 0 ≤ (jE : Int) := zo; have aj8 : jE < (t196.length : Int) := zo; obtain ⟨Nn, auH, asH⟩ := Kd.eP (Kd.aU dB.out).2.2 jE aj7 aj8; cases auH; replace aj7 := eq_true aj7; replace aj8 := eq_true aj8; go_wp2_with (first | ((with_reducible refine ay (f := 50) rfl ?_); refine zG (some 98) rfl Tryd.func50 #[.int .u64 (Go.bits .and .u64 (rd t196 jE) t191)] ?_; (with_reducible refine (bQ.calls k4 (Go.bits .and .u64 (rd t196 jE) t191) t219 _ ?aI A67.out).mono ?_); (case aI => exact kQ.now lM.out (zB HB)); rintro e w70 ⟨aBZ, rfl, ho0, hb⟩; refine ⟨_, rfl, ?_⟩; have agF := zA (Kd.dw ho0 (aJ (zB HB))); replace fF := zA (Kd.iY (zS fF) hb); replace eU := zA (Kd.bf (zR eU) hb); replace dO := zA (Kd.bf (zR dO) hb); replace dB := zA (Kd.bf (zR dB) hb); replace dW := zA (dn dW hb); replace fG := zA (dn fG hb); replace HB := zA (af (zB HB) hb); obtain ⟨auI, auJ, auK⟩ := Kd.bD agF.out; subst auK)); go_loopg [14, 100] k4 (fun kq v14 auL w' => ∃ (AA : List (aD)) (sZ : Int), auL = .int .i64 sZ ∧ ag (aM.l3 kq l1 a2 t191 oM t210 jE AA au jE t219 (t219.length : Int) sZ t192 t193 t196 = some r) ∧ ag (kq ≤ k4) ∧ ag (Kd.S (Kd.slice 42 gm) 22 w' w.heap.size (fun k_ => some k_ ≠ (v14 : Value).ownBlock) u9 oM) ∧ ag (Kd.R gm 42 w' w.heap.size (fun _ => True) v14 AA) ∧ ag (Kd.R (Kd.int .i64) 3 w' w.heap.size (fun _ => True) (.slice auI t219.length auJ) t219) ∧ ag (Kd.R (Kd.int .u64) 76 w' w.heap.size (fun k_ => some k_ ≠ ((.slice (some Nn) t196.length oL) : Value).ownBlock) (.slice rY t193.length rZ) t193) ∧ ag (Kd.R (Kd.int .u64) 76 w' w.heap.size (fun k_ => some k_ ≠ ((.slice rY t193.length rZ) : Value).ownBlock) (.slice (some Nn) t196.length oL) t196) ∧ ag (w'.heap[qY]? = some (.cells #[.int .i64 au, (.slice aZ ah.length aW)] 24 (0, 0))) ∧ ag (w'.heap[mW]? = some (.cells #[.int .u64 t192, (.slice rY t193.length rZ), (.slice (some Nn) t196.length oL)] 80 (0, 0))) ∧ ag (Below w.heap.size w w'))
                       case atStart => exact ⟨(yY), (0), zv, H', ⟨Nat.le_refl _⟩, ⟨zS fF⟩, ⟨zR eU⟩, ⟨zR agF⟩, ⟨zR dO⟩, ⟨zR dB⟩, ⟨zK dW⟩, ⟨zK fG⟩, ⟨zB HB⟩⟩
                       case round =>
                        clear H'
                        obtain ⟨AA, sZ, rfl, HA, HK5, fF, eU, Jc, dO, dB, dW, fG, HB⟩ := hrel; cases gk with
                        | zero => exact absurd HA.out (by simp [aM.l3])
                        | succ k5 =>
                         have H := HA.out; clear HA; simp only [aM.l3] at H; by_cases c72 : sZ < (t219.length : Int)
                         · rw [if_pos c72] at H; have aoN := decide_eq_true c72; clear c72; by_cases c73 : 0 ≤ sZ
                           · rw [if_pos c73] at H; have ayS := decide_eq_true c73; clear c73; by_cases c74 : sZ < (t219.length : Int)
                             · rw [if_pos c74] at H; have ayT := decide_eq_true c74; clear c74; by_cases c75 : AA.length < 8796093022208
                               · rw [if_pos c75] at H; have aoO := zA c75; clear c75; obtain ⟨aoP, Rh⟩ : ∃ y_ : List (aD), y_ = (AA ++ [(⟨jE, rd t219 sZ⟩ : aD)]) := ⟨_, rfl⟩; replace H : (aM.l3 k5 l1 a2 t191 oM t210 jE aoP au jE t219 (t219.length : Int) (wrap64 (sZ + 1)) t192 t193 t196) = some r := by first | (rw [Rh]; with_reducible exact H) | (have iW := (Option.bind_some _ _).symm.trans H; rw [Rh]; with_reducible exact iW) | (have iW := (Option.bind_some _ _).symm.trans H; with_reducible exact iW) | with_reducible exact H | (rw [Rh]; exact H) | exact H
                                 have aoQ := zA Rh; clear Rh; have H' := zA H; clear H; have aj9 : 0 ≤ (sZ : Int) := zo; have aka : sZ < (t219.length : Int) := zo; obtain ⟨ayU, e222, asK⟩ := Kd.eP (Kd.aU Jc.out).2.2 sZ aj9 aka; cases e222; replace aj9 := eq_true aj9; replace aka := eq_true aka; go_wp2_with (first | ((with_reducible refine fZ (b := .append) (xs := #[.tmp 104, .tmp 108]) rfl ?_); at_builtin; refine Kd.oz gm (w0 := w) w.heap.size rfl (.tmp 104) (.tmp 108) 22 42 (.agg #[(.int .i64 0), (.int .i64 0)]) 16 rfl Tryd.underlying22 nA rfl (by decide) (by omega) u14 AA (⟨jE, rd t219 sZ⟩ : aD) [.int .i64 jE, .int .i64 (rd t219 sZ)] (fun _ => True) (fun _ => False) rfl rfl ?aP (fun _ hk => hk.elim) ?aF ?aO ?aB ?aS ?aL ?_; (case aP => exact mR _ _ _ (⟨jE, rd t219 sZ⟩ : aD)); (case aB => exact (zB HB)); (case aF => exact (fun _ _ => trivial)); (case aO => exact (zR eU)); (case aS => exact (aJ (zB HB))); (case aL => have := aoO.out; omega); intro aB0 w76 ho hb hg hat; rw [← aoQ.out] at ho; have aoR := zA (ho); replace fF := zA (Kd.wT (ok := (fun _ => True)) (by refine sM ?_; exact Kd.dF fF.out (fun _ hk => ⟨trivial, hk⟩)) hg hat); replace Jc := zA (Kd.oH (zR Jc) (Kd.nM (zR eU)) (by decide) hg); replace dO := zA (Kd.oH (zR dO) (Kd.nM (zR eU)) (by decide) hg); replace dB := zA (Kd.oH (zR dB) (Kd.nM (zR eU)) (by decide) hg); replace dW := zA (bZ (g := qY) (o := .cells #[.int .i64 au, .slice aZ ah.length aW] 24 (0, 0)) (zK dW) hg (Kd.oK eU.out dW.out (by decide))); replace fG := zA (bZ (g := mW) (o := .cells #[.int .u64 t192, .slice rY t193.length rZ, .slice (some Nn) t196.length oL] 80 (0, 0)) (zK fG) hg (Kd.oK eU.out fG.out (by decide))); replace HB := zA (hb); clear eU; clear ho hb hg hat)); go_roundg k5
                                 case measure => have := iU.out; have := mo.out; have := Mm.out; have := OP.out; have := HK5.out; omega
                                 case rel => exact ⟨(aoP), (wrap64 (sZ + 1)), zv, H', ⟨by have := iU.out; have := mo.out; have := Mm.out; have := OP.out; have := HK5.out; omega⟩, ⟨by refine sM ?_; exact Kd.dF fF.out (fun _ hk => hk.2)⟩, ⟨zR aoR⟩, ⟨zR Jc⟩, ⟨zR dO⟩, ⟨zR dB⟩, ⟨zK dW⟩, ⟨zK fG⟩, ⟨zB HB⟩⟩
                               · rw [if_neg c75] at H; exact absurd H (by simp)
                             · rw [if_neg c74] at H; exact absurd H (by simp)
                           · rw [if_neg c73] at H; exact absurd H (by simp)
                         · rw [if_neg c72] at H; have aoN := decide_eq_false c72; clear c72; replace H := zE H; obtain ⟨t226, A77, H⟩ := H; (try dsimp only at H); by_cases c78 : oM.length < 5864062014805
                           · rw [if_pos c78] at H; have aoS := zA c78; clear c78; obtain ⟨aoT, Ri⟩ : ∃ y_ : List (List (aD)), y_ = (oM ++ [t226]) := ⟨_, rfl⟩; replace H : (aM.l1 k5 l1 a2 t191 aoT t210 au (wrap64 (jE + 1)) t192 t193 t196) = some r := by first | (rw [Ri]; with_reducible exact H) | (have iW := (Option.bind_some _ _).symm.trans H; rw [Ri]; with_reducible exact iW) | (have iW := (Option.bind_some _ _).symm.trans H; with_reducible exact iW) | with_reducible exact H | (rw [Ri]; exact H) | exact H
                             have aoU := zA Ri; clear Ri; have H' := zA H; clear H; obtain ⟨Uv, Uw, akb⟩ := Kd.bD eU.out; subst akb; go_wp2_with (first | ((with_reducible refine ay (f := 42) rfl ?_); refine zG (some 112) rfl Tryd.func42 #[.slice Uv AA.length Uw, .func (.func 43) #[] #[]] ?_; (with_reducible refine (kS.calls (fun k_ => some k_ = (.slice Uv AA.length Uw : Value).ownBlock) (.slice Uv AA.length Uw) AA  t226 w _ ?aI ?aN A77.out).mono ?_); (case aI => repeat (first | (with_reducible first | exact HB.out | apply bB | apply bH | apply bn | refine bG ?_ agy.out | refine bG ?_ Jb.out) | exact HB.out)); (case aN => exact Kd.wS rfl eU.out); rintro e w80 ⟨rfl, hy0, hb, hkp⟩; refine ⟨_, rfl, ?_⟩; replace fF := zA (Kd.dF (ok' := fun k_ => some k_ ≠ (.slice Uv AA.length Uw : Value).ownBlock) (Kd.VQ (fF.out) hkp (fun k_ CF hs_ => (CF) hs_)) (fun k_ CF => CF.1)); replace Jc := zA (Kd.aQ (ok' := fun k_ => True) (Kd.ET ((Kd.oC Jc.out (Kd.nM eU.out) (by decide))) hkp (fun k_ CF hs_ => (CF.2) hs_)) (fun k_ CF => trivial)); replace dO := zA (Kd.aQ (ok' := fun k_ => some k_ ≠ (.slice (some Nn) t196.length oL : Value).ownBlock) (Kd.ET ((Kd.oC dO.out (Kd.nM eU.out) (by decide))) hkp (fun k_ CF hs_ => (CF.2) hs_)) (fun k_ CF => CF.1.1)); replace dB := zA (Kd.aQ (ok' := fun k_ => some k_ ≠ (.slice rY t193.length rZ : Value).ownBlock) (Kd.ET ((Kd.oC dB.out (Kd.nM eU.out) (by decide))) hkp (fun k_ CF hs_ => (CF.2) hs_)) (fun k_ CF => CF.1.1)); replace dW := zA (yg (zK dW) hkp (fun hs_ => (fun e_ => (Kd.oK eU.out dW.out (by decide)) e_) hs_)); replace fG := zA (yg (zK fG) hkp (fun hs_ => (fun e_ => (Kd.oK eU.out fG.out (by decide)) e_) hs_)); replace eU := zA (Kd.aaa rfl hy0 (fun k_ e_ => eU.out.1 k_ e_)); replace HB := zA (hb)) | ((with_reducible refine fZ (b := .append) (xs := #[.tmp 113, .tmp 115]) rfl ?_); at_builtin; refine Kd.CL (Kd.slice 42 gm) (w0 := w) w.heap.size rfl (.tmp 113) (.tmp 115) 26 22 (.slice none 0 0) 24 rfl Tryd.underlying26 Kl rfl (by decide) (by omega) u9 oM t226 [.slice Uv AA.length Uw] (fun _ => True) (fun k_ => some k_ = (.slice Uv AA.length Uw : Value).ownBlock) rfl rfl ?aP (fun k_ CF => ((Kd.aQ (ok' := fun k_ => ((fun _ => True)) k_ ∧ some k_ ≠ (u9 : Value).ownBlock) (Kd.oC (eU.out) (Kd.o6 fF.out) (by decide)) (fun k_ hk => ⟨trivial, hk.2⟩))).1 k_ CF.symm) ?aF ?aO ?aB ?aS ?aL ?_; (case aP => exact Kd.Qg (Kd.aQ (Kd.wS rfl (Kd.aQ (ok' := fun k_ => ((fun _ => True)) k_ ∧ some k_ ≠ (u9 : Value).ownBlock) (Kd.oC (eU.out) (Kd.o6 fF.out) (by decide)) (fun k_ hk => ⟨trivial, hk.2⟩))) (fun _ h_ => h_))); (case aB => exact (zB HB)); (case aF => exact (fun _ _ => trivial)); (case aO => exact (by refine sM ?_; exact Kd.dF fF.out (fun k_ hk => ⟨trivial, fun e_ => hk e_⟩))); (case aS => exact (aJ (zB HB))); (case aL => have := aoS.out; omega); intro v228 w81 ho hb hg hat; rw [← aoU.out] at ho; have aoV := zA (ho); replace Jc := zA (Kd.oH (zR Jc) (Kd.o6 (zS fF)) (by decide) hg); replace dO := zA (Kd.oH (zR dO) (Kd.o6 (zS fF)) (by decide) hg); replace dB := zA (Kd.oH (zR dB) (Kd.o6 (zS fF)) (by decide) hg); replace dW := zA (bZ (g := qY) (o := .cells #[.int .i64 au, .slice aZ ah.length aW] 24 (0, 0)) (zK dW) hg (Kd.Oa fF.out dW.out (by decide))); replace fG := zA (bZ (g := mW) (o := .cells #[.int .u64 t192, .slice rY t193.length rZ, .slice (some Nn) t196.length oL] 80 (0, 0)) (zK fG) hg (Kd.Oa fF.out fG.out (by decide))); replace HB := zA (hb); clear fF eU; clear ho hb hg hat)); go_roundg k5
                             case measure => have := iU.out; have := mo.out; have := Mm.out; have := OP.out; have := HK5.out; omega
                             case rel => exact ⟨(aoT), (wrap64 (jE + 1)), zv, H', ⟨by have := iU.out; have := mo.out; have := Mm.out; have := OP.out; have := HK5.out; omega⟩, ⟨zS aoV⟩, ⟨zR dO⟩, ⟨zR dB⟩, ⟨zK dW⟩, ⟨zK fG⟩, ⟨zB HB⟩⟩
                           · rw [if_neg c78] at H; exact absurd H (by simp)
                     · rw [if_neg c66] at H; exact absurd H (by simp)
                   · rw [if_neg c65] at H; exact absurd H (by simp)
                 · rw [if_neg c64] at H; have aoL : (a2 == 1) = false := beq_eq_false_iff_ne.mpr c64; have aoM : (a2 != 1) = true := bne_iff_ne.mpr c64; replace H := zE H; obtain ⟨t230, A82, H⟩ := H; (try dsimp only at H); by_cases c83 : oM.length < 5864062014805
                   · rw [if_pos c83] at H; have aoW := zA c83; clear c83; obtain ⟨aoX, Rj⟩ : ∃ y_ : List (List (aD)), y_ = (oM ++ [t230]) := ⟨_, rfl⟩; replace H : (aM.l1 k4 l1 a2 t191 aoX t210 au (wrap64 (jE + 1)) t192 t193 t196) = some r := by first | (rw [Rj]; with_reducible exact H) | (have iW := (Option.bind_some _ _).symm.trans H; rw [Rj]; with_reducible exact iW) | (have iW := (Option.bind_some _ _).symm.trans H; with_reducible exact iW) | with_reducible exact H | (rw [Rj]; exact H) | exact H
                     have aoY := zA Rj; clear Rj; have H' := zA H; clear H; obtain ⟨Ux, Uy, akc⟩ := Kd.bD eU.out; subst akc; go_wp2_with (first | ((with_reducible refine ay (f := 42) rfl ?_); refine zG (some 112) rfl Tryd.func42 #[.slice Ux yY.length Uy, .func (.func 43) #[] #[]] ?_; (with_reducible refine (kS.calls (fun k_ => some k_ = (.slice Ux yY.length Uy : Value).ownBlock) (.slice Ux yY.length Uy) yY  t230 w _ ?aI ?aN A82.out).mono ?_); (case aI => repeat (first | (with_reducible first | exact HB.out | apply bB | apply bH | apply bn | refine bG ?_ agy.out | refine bG ?_ Jb.out) | exact HB.out)); (case aN => exact Kd.wS rfl eU.out); rintro e w85 ⟨rfl, hy0, hb, hkp⟩; refine ⟨_, rfl, ?_⟩; replace fF := zA (Kd.dF (ok' := fun k_ => some k_ ≠ (.slice Ux yY.length Uy : Value).ownBlock) (Kd.VQ (fF.out) hkp (fun k_ CF hs_ => (CF) hs_)) (fun k_ CF => CF.1)); replace dO := zA (Kd.aQ (ok' := fun k_ => some k_ ≠ (.slice ql t196.length oL : Value).ownBlock) (Kd.ET ((Kd.oC dO.out (Kd.nM eU.out) (by decide))) hkp (fun k_ CF hs_ => (CF.2) hs_)) (fun k_ CF => CF.1.1)); replace dB := zA (Kd.aQ (ok' := fun k_ => some k_ ≠ (.slice rY t193.length rZ : Value).ownBlock) (Kd.ET ((Kd.oC dB.out (Kd.nM eU.out) (by decide))) hkp (fun k_ CF hs_ => (CF.2) hs_)) (fun k_ CF => CF.1.1)); replace dW := zA (yg (zK dW) hkp (fun hs_ => (fun e_ => (Kd.oK eU.out dW.out (by decide)) e_) hs_)); replace fG := zA (yg (zK fG) hkp (fun hs_ => (fun e_ => (Kd.oK eU.out fG.out (by decide)) e_) hs_)); replace eU := zA (Kd.aaa rfl hy0 (fun k_ e_ => eU.out.1 k_ e_)); replace HB := zA (hb)) | ((with_reducible refine fZ (b := .append) (xs := #[.tmp 113, .tmp 115]) rfl ?_); at_builtin; refine Kd.CL (Kd.slice 42 gm) (w0 := w) w.heap.size rfl (.tmp 113) (.tmp 115) 26 22 (.slice none 0 0) 24 rfl Tryd.underlying26 Kl rfl (by decide) (by omega) u9 oM t230 [.slice Ux yY.length Uy] (fun _ => True) (fun k_ => some k_ = (.slice Ux yY.length Uy : Value).ownBlock) rfl rfl ?aP (fun k_ CF => ((Kd.aQ (ok' := fun k_ => ((fun _ => True)) k_ ∧ some k_ ≠ (u9 : Value).ownBlock) (Kd.oC (eU.out) (Kd.o6 fF.out) (by decide)) (fun k_ hk => ⟨trivial, hk.2⟩))).1 k_ CF.symm) ?aF ?aO ?aB ?aS ?aL ?_; (case aP => exact Kd.Qg (Kd.aQ (Kd.wS rfl (Kd.aQ (ok' := fun k_ => ((fun _ => True)) k_ ∧ some k_ ≠ (u9 : Value).ownBlock) (Kd.oC (eU.out) (Kd.o6 fF.out) (by decide)) (fun k_ hk => ⟨trivial, hk.2⟩))) (fun _ h_ => h_))); (case aB => exact (zB HB)); (case aF => exact (fun _ _ => trivial)); (case aO => exact (by refine sM ?_; exact Kd.dF fF.out (fun k_ hk => ⟨trivial, fun e_ => hk e_⟩))); (case aS => exact (aJ (zB HB))); (case aL => have := aoW.out; omega); intro v232 w86 ho hb hg hat; rw [← aoY.out] at ho; have aoZ := zA (ho); replace dO := zA (Kd.oH (zR dO) (Kd.o6 (zS fF)) (by decide) hg); replace dB := zA (Kd.oH (zR dB) (Kd.o6 (zS fF)) (by decide) hg); replace dW := zA (bZ (g := qY) (o := .cells #[.int .i64 au, .slice aZ ah.length aW] 24 (0, 0)) (zK dW) hg (Kd.Oa fF.out dW.out (by decide))); replace fG := zA (bZ (g := mW) (o := .cells #[.int .u64 t192, .slice rY t193.length rZ, .slice ql t196.length oL] 80 (0, 0)) (zK fG) hg (Kd.Oa fF.out fG.out (by decide))); replace HB := zA (hb); clear fF eU; clear ho hb hg hat)); go_roundg k4
                     case measure => have := iU.out; have := mo.out; have := Mm.out; have := OP.out; omega
                     case rel => exact ⟨(aoX), (wrap64 (jE + 1)), zv, H', ⟨by have := iU.out; have := mo.out; have := Mm.out; have := OP.out; omega⟩, ⟨zS aoZ⟩, ⟨zR dO⟩, ⟨zR dB⟩, ⟨zK dW⟩, ⟨zK fG⟩, ⟨zB HB⟩⟩
                   · rw [if_neg c83] at H; exact absurd H (by simp)
       · rw [if_neg KX] at H; have WH := decide_eq_false KX; clear KX; obtain rfl := Option.some.inj H; go_wp2; go_ret; exact ⟨_, ze, by refine sM ?_; exact fF.out, zB HB⟩
end Go.Proofs.YtjmdlmogdbhdhaaDoor.P
namespace Go.Proofs.YtjmdlmogdbhdhaaDoor.P
open Go.RowKit Go.Proofs.YtjmdlmogdbhdhaaDoorW.PrintWords Go.Proofs.YtjmdlmogdbhdhaaDoorW.PrintLast Go.Proofs.YtjmdlmogdbhdhaaDoorW.PrintMore
def zJ (s : List Int) (a : Int) : Bool := decide (a ∈ s)
def D5 (L : List aD) (s : List Int) : List (List aD) := (L.filter fun p => zJ s p.f0 && zJ s p.f1).map fun p => [p]
def Ew (L : List aD) (s : List Int) (kind : Int) (a : Nat) : Bool := inl s a || (hits L (inl s) a || (decide (kind = 1) && !Fq L (inl s) a))
def back (L : List aD) (s : List Int) (a : Nat) : List Int := JE (fun b => TA L a b && inl s b)
def Uz (L : List aD) (s : List Int) (kind : Int) (a : Nat) : List aD := s.map (fun x => ⟨x, (a : Int)⟩) ++ if kind = 1 then (back L s a).map (fun x => ⟨(a : Int), x⟩) else []
def wC (L : List aD) (s : List Int) (kind : Int) (a : Nat) : List aD := Oj (Uz L s kind a)
def vV (L : List aD) (s : List Int) (kind : Int) : Nat → Nat → List (List aD)
  | 0, _ => []
  | n + 1, a => if Ew L s kind a = true then vV L s kind n (a + 1) else wC L s kind a :: vV L s kind n (a + 1)
def qA (N : Int) (L : List aD) (s : List Int) (kind : Int) : List (List aD) := D5 L s ++ vV L s kind N.toNat 0
theorem Fy {u : Int} {p : Nat → Bool} (h : qI u p) (x : Int) (h0 : 0 ≤ x) (h1 : x < 64) : cO.f u x = some (p x.toNat) := by
  have := Ou h x.toNat (by omega)
  rwa [show ((x.toNat : Nat) : Int) = x by omega] at this
theorem xk (s : List Int) (x : Int) (h0 : 0 ≤ x) : inl s x.toNat = zJ s x := by
  unfold inl zJ
  rw [show ((x.toNat : Nat) : Int) = x by omega]
section
variable {N : Int} {L : List aD} {s : List Int} {kind u t al : Int} {uI out : List Int}
theorem dl3 {EL : Int} {R : List (List aD)} (acc : List (List aD)) (hacc : acc.length ≤ 100000) (hP : ∀ x, Ev (fun k => aM.l1 k s kind u (acc ++ [x]) t N EL al uI out) ((acc ++ [x]) ++ R)) (l : List Int) (hl : l.length ≤ 1000) (wo akd : Int) (hw : wrap64 (akd + 1) = EL) :
    ∀ (n i : Nat), n + i = l.length → ∀ d : List aD, d.length ≤ 1000 + i → Ev (fun k => aM.l3 k s kind u acc t wo d N akd l (l.length : Int) (i : Int) al uI out) (acc ++ Oj (d ++ (l.drop i).map (fun x => ⟨wo, x⟩)) :: R)
  | 0, i, hi, d, hd => by
    refine Ev.succ ?_
    simp only [aM.l3, hw]
    refine Ev.neg (by omega) ?_
    rw [List.drop_eq_nil_of_le (by omega), List.map_nil, List.append_nil]
    have e : @kS.f d = some (Oj d) := by unfold kS.f; rw [if_pos (by omega)]
    simp only [e, Option.bind_some]
    have := hP (Oj d)
    exact Ev.pos (by omega) (by simpa using this)
  | n + 1, i, hi, d, hd => by
    have hlt : i < l.length := by omega
    have ih := dl3 acc hacc hP l hl wo akd hw n (i + 1) (by omega) (d ++ [⟨wo, l[i]⟩]) (by simp; omega)
    refine Ev.succ ?_
    simp only [aM.l3, pQ l i hlt, Ck i (by omega)]
    refine Ev.pos (by omega) (Ev.pos (by omega) (Ev.pos (by omega) (Ev.pos (by omega) ?_)))
    rw [List.drop_eq_getElem_cons hlt, List.map_cons]
    rw [List.append_assoc] at ih
    exact ih
theorem dl2 {EL : Int} {R : List (List aD)} (acc : List (List aD)) (hacc : acc.length ≤ 100000) (hP : ∀ x, Ev (fun k => aM.l1 k s kind u (acc ++ [x]) t N EL al uI out) ((acc ++ [x]) ++ R)) (D6 : Ar N L al uI out) (hN : N ≤ 40) (hu : qI u (inl s)) (hs : s.length ≤ 40) (a : Nat) (ha : (a : Int) < N) (hw : wrap64 ((a : Int) + 1) = EL) :
    ∀ (n i : Nat), n + i = s.length → ∀ d : List aD, d.length ≤ i → Ev (fun k => aM.l2 k s kind u acc t (a : Int) d N (a : Int) s (s.length : Int) (i : Int) al uI out) (acc ++ Oj (d ++ ((s.drop i).map (fun x => ⟨x, (a : Int)⟩) ++ if kind = 1 then (back L s a).map (fun x => ⟨(a : Int), x⟩) else [])) :: R)
  | 0, i, hi, d, hd => by
    have hlo := D6.lo
    refine Ev.succ ?_
    simp only [aM.l2, hw]
    refine Ev.neg (by omega) ?_
    rw [List.drop_eq_nil_of_le (by omega), List.map_nil, List.nil_append]
    by_cases hk : kind = 1
    · rw [if_pos hk]
      have hb := DK (fun b => TA L a b && inl s b)
      have h3 := dl3 acc hacc hP (back L s a) (Nat.le_trans hb (by omega)) (a : Int) (a : Int) hw (back L s a).length 0 (by omega) d (by omega)
      rw [List.drop_zero] at h3
      exact Ev.pos hk (Ev.pos (by omega) (Ev.pos (by omega) (Ev.bind (DJ ((D6.ro a ha).and hu)) h3)))
    · rw [if_neg hk, List.append_nil]
      have e : @kS.f d = some (Oj d) := by unfold kS.f; rw [if_pos (by omega)]
      simp only [e, Option.bind_some]
      have := hP (Oj d)
      exact Ev.neg hk (Ev.pos (by omega) (by simpa using this))
  | n + 1, i, hi, d, hd => by
    have hlt : i < s.length := by omega
    have ih := dl2 acc hacc hP D6 hN hu hs a ha hw n (i + 1) (by omega) (d ++ [⟨s[i], (a : Int)⟩]) (by simp; omega)
    refine Ev.succ ?_
    simp only [aM.l2, pQ s i hlt, Ck i (by omega)]
    refine Ev.pos (by omega) (Ev.pos (by omega) (Ev.pos (by omega) (Ev.pos (by omega) ?_)))
    rw [List.drop_eq_getElem_cons hlt, List.map_cons]
    rw [List.append_assoc] at ih
    exact ih
theorem dl1 (D6 : Ar N L al uI out) (hN : N ≤ 40) (hu : qI u (inl s)) (hs : s.length ≤ 40) (ht : qI t (hits L (inl s))) :
    ∀ (n i : Nat), ((n + i : Nat) : Int) = N → ∀ acc : List (List aD), acc.length + n ≤ 90000 → Ev (fun k => aM.l1 k s kind u acc t N (i : Int) al uI out) (acc ++ vV L s kind n i)
  | 0, i, hi, acc, ha => by
    refine Ev.succ ?_
    simp only [aM.l1, vV, List.append_nil]
    exact Ev.neg (by omega) (Ev.const _)
  | n + 1, i, hi, acc, ha => by
    have hlo := D6.lo
    have hiN : (i : Int) < N := by omega
    have hw := Ck i (by omega)
    have ih := dl1 D6 hN hu hs ht n (i + 1) (by omega)
    have hJ : ∀ b : Bool, b = Ew L s kind i → Ev (fun k => aM.j2 k s kind u acc t (i : Int) N (i : Int) b al uI out) (acc ++ vV L s kind (n + 1) i) := by
      intro b hb
      refine Ev.succ ?_
      simp only [aM.j2, hw, vV, ← hb]
      cases b with
      | true => exact Ev.pos rfl (by simpa using ih acc (by omega))
      | false =>
        refine Ev.neg (by simp) ?_
        simp only [Bool.false_eq_true, if_false]
        have h2 := dl2 (L := L) acc (by omega) (R := vV L s kind n (i + 1)) (fun x => ih (acc ++ [x]) (by simp; omega)) D6 hN hu hs i hiN hw s.length 0 (by omega) [] (by simp)
        exact h2
    refine Ev.succ ?_
    simp only [aM.l1, Ou hu i (by omega), Ou ht i (by omega), Option.bind_some]
    refine Ev.pos hiN ?_
    cases h1 : inl s i with
    | true => exact Ev.pos rfl (hJ true (by unfold Ew; rw [h1]; rfl))
    | false =>
      refine Ev.neg (by simp) ?_
      cases h2 : hits L (inl s) i with
      | true => exact Ev.pos rfl (hJ true (by unfold Ew; rw [h1, h2]; rfl))
      | false =>
        refine Ev.neg (by simp) ?_
        by_cases hk : kind = 1
        · refine Ev.pos hk (Ev.pos (by omega) (Ev.pos (by omega) ?_))
          refine hJ _ ?_
          rw [((D6.ro i hiN).and hu).isz]
          unfold Ew
          rw [h1, h2, decide_eq_true hk, Bool.false_or, Bool.false_or, Bool.true_and]
          unfold Fq
          rw [List.not_any_eq_all_not]
          refine congrArg (fun f => (List.range 64).all f) (funext fun b => ?_)
          rw [Bool.and_comm]
        · refine Ev.neg hk (hJ false ?_)
          unfold Ew
          rw [h1, h2, decide_eq_false hk]
          rfl
theorem dl0 (hG : jd N L) (D6 : Ar N L al uI out) (hu : qI u (inl s)) (hsl : mD N s) :
    ∀ (n i : Nat), n + i = L.length → ∀ acc : List (List aD), acc.length ≤ i → Ev (fun k => aM.l0 k s kind u acc L (L.length : Int) (i : Int) N L al uI out) (acc ++ (D5 (L.drop i) s ++ vV L s kind N.toNat 0))
  | 0, i, hi, acc, ha => by
    have h0 := hG.n0
    have h1 := hG.n1
    have hlen := mq hG
    obtain ⟨t, e, ht⟩ := OH D6 hG.n1 hu hsl.sup
    refine Ev.succ ?_
    simp only [aM.l0]
    refine Ev.neg (by omega) (Ev.bind e ?_)
    rw [List.drop_eq_nil_of_le (by omega)]
    exact dl1 D6 hG.n1 hu (hsl.len h0 h1) ht N.toNat 0 (by omega) acc (by omega)
  | n + 1, i, hi, acc, ha => by
    have h1 := hG.n1
    have hlen := mq hG
    have hlt : i < L.length := by omega
    have hr := hG.inr _ (List.getElem_mem hlt)
    have ih := dl0 hG D6 hu hsl n (i + 1) (by omega)
    refine Ev.succ ?_
    simp only [aM.l0, o7 L i hlt, Ck i (by omega), Fy hu (L[i]).f0 hr.1 (by omega), Fy hu (L[i]).f1 hr.2.2.1 (by omega), xk s (L[i]).f0 hr.1, xk s (L[i]).f1 hr.2.2.1, Option.bind_some]
    refine Ev.pos (by omega) (Ev.pos (by omega) (Ev.pos (by omega) ?_))
    have hid : D5 (L.drop i) s = (if (zJ s (L[i]).f0 && zJ s (L[i]).f1) = true then [[L[i]]] else []) ++ D5 (L.drop (i + 1)) s := by
      unfold D5
      rw [List.drop_eq_getElem_cons hlt, List.filter_cons]
      split <;> simp
    rw [hid]
    cases ha' : zJ s (L[i]).f0 with
    | false => exact Ev.neg (by simp) (by simpa using ih acc (by omega))
    | true =>
      refine Ev.pos rfl ?_
      cases hb' : zJ s (L[i]).f1 with
      | false => exact Ev.neg (by simp) (by simpa using ih acc (by omega))
      | true =>
        refine Ev.pos rfl (Ev.pos (by omega) ?_)
        have := ih (acc ++ [[L[i]]]) (by simp; omega)
        simpa using this
theorem Ia (hG : jd N L) (hsl : mD N s) (kind : Int) : Ev (fun k => aM.f k N L s kind) (qA N L s kind) := by
  obtain ⟨al, uI, out, e, h⟩ := OE hG
  obtain ⟨u, e2, hu⟩ := hsl.of hG.n0 hG.n1
  have h0 := dl0 (kind := kind) hG h hu hsl L.length 0 (by omega) [] (by simp)
  rw [List.drop_zero, List.nil_append] at h0
  simp only [aM.f]
  exact Ev.bind e2 (Ev.bind e h0)
end
end Go.Proofs.YtjmdlmogdbhdhaaDoor.P
namespace Go.Proofs.YtjmdlmogdbhdhaaDoor.P
open Go.RowKit Go.Proofs.YtjmdlmogdbhdhaaDoorW.PrintWords Go.Proofs.YtjmdlmogdbhdhaaDoorW.PrintLast Go.Proofs.YtjmdlmogdbhdhaaDoorW.PrintMore
attribute [local go_sem] iI iJ jP jQ gH gI iK iL
set_option linter.unusedVariables false
set_option linter.unusedSimpArgs false
set_option maxHeartbeats 8000000
set_option maxRecDepth 100000
def dG.l0 : Nat → List Int → Int → List Int → Int → Int → Option (Bool)
 | 0, _, _, _, _, _ => none
 | k + 1, x0, x1, x7, x8, x9 => if x9 < x8 then (if 0 ≤ x9 then (if x9 < (x7.length : Int) then (if (rd x7 x9) < 0 then (some false) else (if (rd x7 x9) ≥ x1 then (some false) else (if x9 > 0 then (if 0 ≤ (wrap64 (x9 - 1)) then (if (wrap64 (x9 - 1)) < (x0.length : Int) then (if (rd x7 x9) ≤ (rd x0 (wrap64 (x9 - 1))) then (some false) else (dG.l0 k x0 x1 x7 x8 (wrap64 (x9 + 1)))) else (none)) else (none)) else (dG.l0 k x0 x1 x7 x8 (wrap64 (x9 + 1)))))) else (none)) else (none)) else (some true)
def dG.f (k : Nat) (l0 : List Int) (a1 : Int) : Option (Bool) := dG.l0 k l0 a1 l0 (l0.length : Int) 0
theorem dG.calls (k : Nat) (A0 : Option Addr) (c0 : Nat) (l0 : List Int) (a1 : Int) (r : Bool) (w : World) (hr0 : Kd.C (Kd.int .i64) w A0 l0.length l0) (hc0 : l0.length ≤ c0) (h : dG.f k l0 a1 = some r) :
 Calls Tryd.prog 64 #[.slice A0 l0.length c0, .int .i64 a1] w fun e w' => e = .returned (.bool r) ∧ bR w w' := by
 have uh := zA hr0; have EK := zA hc0; clear hr0 hc0; have H : (dG.l0 k l0 a1 l0 (l0.length : Int) 0) = some r := h; clear h; have H' := zA H; clear H; go_enter Tryd.func64, Tryd.ntmps64; go_wp2; go_loopg [9] k (fun kq v9 w' => ∃ (iR : Int), v9 = .int .i64 iR ∧ ag (dG.l0 kq l0 a1 l0 (l0.length : Int) iR = some r) ∧ ag (kq ≤ k) ∧ bR w w')
 case atStart => exact ⟨(0), zv, H', ⟨Nat.le_refl _⟩, by repeat (first | exact bR.refl _ | apply bR.step)⟩
 case round =>
  clear H'
  obtain ⟨iR, rfl, HA, iU, ⟨m1, rfl⟩⟩ := hrel; cases gk with
  | zero => exact absurd HA.out (by simp [dG.l0])
  | succ k1 =>
   have H := HA.out; clear HA; simp only [dG.l0] at H; by_cases c3 : iR < (l0.length : Int)
   · rw [if_pos c3] at H; have zF := decide_eq_true c3; clear c3; by_cases c4 : 0 ≤ iR
     · rw [if_pos c4] at H; have qU := decide_eq_true c4; clear c4; by_cases c5 : iR < (l0.length : Int)
       · rw [if_pos c5] at H; have pM := decide_eq_true c5; clear c5; by_cases c6 : (rd l0 iR) < 0
         · rw [if_pos c6] at H; have yH := decide_eq_true c6; clear c6; obtain rfl := Option.some.inj H; have Bu : 0 ≤ (iR : Int) := zo; have Bv : iR < (l0.length : Int) := zo; obtain ⟨Np, e128, JI⟩ := Kd.eP uh.out iR Bu Bv; cases e128; replace Bu := eq_true Bu; replace Bv := eq_true Bv; go_wp2; go_ret; exact ⟨by first | rfl | (simp; done) | (simp [*]; done), by repeat (first | exact bR.refl _ | apply bR.step)⟩
         · rw [if_neg c6] at H; have yH := decide_eq_false c6; clear c6; by_cases c7 : (rd l0 iR) ≥ a1
           · rw [if_pos c7] at H; have Am := decide_eq_true c7; clear c7; obtain rfl := Option.some.inj H; have Bu : 0 ≤ (iR : Int) := zo; have Bv : iR < (l0.length : Int) := zo; obtain ⟨Np, e128, JI⟩ := Kd.eP uh.out iR Bu Bv; cases e128; replace Bu := eq_true Bu; replace Bv := eq_true Bv; go_wp2; go_ret; exact ⟨by first | rfl | (simp; done) | (simp [*]; done), by repeat (first | exact bR.refl _ | apply bR.step)⟩
           · rw [if_neg c7] at H; have Am := decide_eq_false c7; clear c7; by_cases c8 : iR > 0
             · rw [if_pos c8] at H; have Oe := decide_eq_true c8; clear c8; obtain ⟨Y7, aeN⟩ : ∃ j_ : Int, (wrap64 (iR - 1)) = j_ := ⟨_, rfl⟩; replace H : (if 0 ≤ (Y7) then (if (Y7) < (l0.length : Int) then (if (rd l0 iR) ≤ (rd l0 (Y7)) then (some false) else (dG.l0 k1 l0 a1 l0 (l0.length : Int) (wrap64 (iR + 1)))) else (none)) else (none)) = some r := by first | (rw [aeN] at H; exact H) | (simp only [aeN] at H ⊢; exact H)
               have ay0 : (IntKind.i64.wrap (iR - 1)) = Y7 := (nE _).trans aeN; by_cases c10 : 0 ≤ (Y7)
               · rw [if_pos c10] at H; have rR := decide_eq_true c10; clear c10; by_cases c11 : (Y7) < (l0.length : Int)
                 · rw [if_pos c11] at H; have EY := decide_eq_true c11; clear c11; by_cases c12 : (rd l0 iR) ≤ (rd l0 (Y7))
                   · rw [if_pos c12] at H; have Aj := decide_eq_true c12; clear c12; obtain rfl := Option.some.inj H; have Bu : 0 ≤ (iR : Int) := zo; have Bv : iR < (l0.length : Int) := zo; obtain ⟨Np, e128, JI⟩ := Kd.eP uh.out iR Bu Bv; cases e128; replace Bu := eq_true Bu; replace Bv := eq_true Bv; have UA : 0 ≤ ((Y7) : Int) := zo; have UB : (Y7) < (l0.length : Int) := zo; obtain ⟨abD, e129, aeO⟩ := Kd.eP uh.out (Y7) UA UB; obtain rfl : Np = abD := (by injection e129); replace UA := eq_true UA; replace UB := eq_true UB; go_wp2; go_ret; exact ⟨by first | rfl | (simp; done) | (simp only [← aeN] <;> (first | rfl | simp)) | (simp [*]; done), by repeat (first | exact bR.refl _ | apply bR.step)⟩
                   · rw [if_neg c12] at H; have Aj := decide_eq_false c12; clear c12; have H' := zA H; clear H; have Bu : 0 ≤ (iR : Int) := zo; have Bv : iR < (l0.length : Int) := zo; obtain ⟨Np, e128, JI⟩ := Kd.eP uh.out iR Bu Bv; cases e128; replace Bu := eq_true Bu; replace Bv := eq_true Bv; have UA : 0 ≤ ((Y7) : Int) := zo; have UB : (Y7) < (l0.length : Int) := zo; obtain ⟨abD, e129, aeO⟩ := Kd.eP uh.out (Y7) UA UB; obtain rfl : Np = abD := (by injection e129); replace UA := eq_true UA; replace UB := eq_true UB; go_wp2; go_roundg k1
                     case measure => have := iU.out; omega
                     case rel => exact ⟨(wrap64 (iR + 1)), zv, H', ⟨by have := iU.out; omega⟩, by repeat (first | exact bR.refl _ | apply bR.step)⟩
                 · rw [if_neg c11] at H; exact absurd H (by simp)
               · rw [if_neg c10] at H; exact absurd H (by simp)
             · rw [if_neg c8] at H; have Oe := decide_eq_false c8; clear c8; have H' := zA H; clear H; have Bu : 0 ≤ (iR : Int) := zo; have Bv : iR < (l0.length : Int) := zo; obtain ⟨Np, e128, JI⟩ := Kd.eP uh.out iR Bu Bv; cases e128; replace Bu := eq_true Bu; replace Bv := eq_true Bv; go_wp2; go_roundg k1
               case measure => have := iU.out; omega
               case rel => exact ⟨(wrap64 (iR + 1)), zv, H', ⟨by have := iU.out; omega⟩, by repeat (first | exact bR.refl _ | apply bR.step)⟩
       · rw [if_neg c5] at H; exact absurd H (by simp)
     · rw [if_neg c4] at H; exact absurd H (by simp)
   · rw [if_neg c3] at H; have zF := decide_eq_false c3; clear c3; obtain rfl := Option.some.inj H; go_wp2; go_ret; exact ⟨by first | rfl | (simp; done) | (simp [*]; done), by repeat (first | exact bR.refl _ | apply bR.step)⟩
def bK.j0 : Nat → List Int → Bool → Int → List (aD) → Option (Int)
 | 0, _, _, _, _ => none
 | k + 1, x1, wo, aeP, asN => if wo = true then (some 4) else ((dG.f k x1 aeP).bind fun t132 => (if t132 = true then (some 0) else (some 1)))
def bK.f (k : Nat) (au : Int) (ah : List (aD)) (l1 : List Int) (a2 : Int) : Option (Int) := (aX.f k au ah).bind fun t131 => (if t131 = 0 then (if a2 = 1 then (bK.j0 k l1 false au ah) else (bK.j0 k l1 (a2 != 2) au ah)) else (some t131))
theorem bK.calls (k : Nat) (au : Int) (aZ : Option Addr) (aW : Nat) (ah : List (aD)) (A1 : Option Addr) (c1 : Nat) (l1 : List Int) (a2 : Int) (r : Int) (w : World) (eY : Kd.C gm w aZ ah.length ah) (eZ : ah.length ≤ aW) (hr1 : Kd.C (Kd.int .i64) w A1 l1.length l1) (hc1 : l1.length ≤ c1) (h : bK.f k au ah l1 a2 = some r) :
 Calls Tryd.prog 37 #[.agg #[.int .i64 au, .slice aZ ah.length aW], .slice A1 l1.length c1, .int .i64 a2] w fun e w' => e = .returned (.int .i64 r) ∧ Below w.heap.size w w' := by
 have uk := Tryd.underlying24; have cz := zA eY; have dX := zA eZ; clear eY eZ; have HR1 := zA hr1; have rX := zA hc1; clear hr1 hc1; have HB := zA (Below.refl w.heap.size w); have H : ((aX.f k au ah).bind fun t131 => (if t131 = 0 then (if a2 = 1 then (bK.j0 k l1 false au ah) else (bK.j0 k l1 (a2 != 2) au ah)) else (some t131))) = some r := h; clear h; replace H := zE H; obtain ⟨t131, A4, H⟩ := H; (try dsimp only at H); by_cases c5 : t131 = 0
 · rw [if_pos c5] at H; have pM : (t131 == 0) = true := beq_iff_eq.mpr c5; have yh : (t131 != 0) = false := bne_eq_false_iff_eq.mpr c5; clear c5; have HC6 := zA H; clear H; go_enter Tryd.func37, Tryd.ntmps37; go_upto_region 4 with (first | ((with_reducible refine aH (N := 3) rfl ?_); refine zX (N := 3) (cs := #[.int .i64 au, .slice aZ ah.length aW]) (t := 24) ?_; intro agG hg w7 aG hb; have Cm := zA (aG); have ao0 := zA (zW hg HB); have ao1 := zA (zW hg HB); replace HB := zA (af (zB HB) hb); clear hb aG hg; obtain ⟨_, _, _, _⟩ := iG Cm) | ((with_reducible refine ay (f := 41) rfl ?_); refine zG (some 9) rfl Tryd.func41 #[.agg #[.int .i64 au, .slice aZ ah.length aW]] ?_; (with_reducible refine (aX.calls k au _ _ ah t131 _ ?aI ?aN A4.out).mono ?_); (case aI => exact jB cz HB); (case aN => exact dX.out); rintro e w9 ⟨rfl, hb⟩; refine ⟨_, rfl, ?_⟩; replace Cm := zA (dn Cm hb); replace HB := zA (af (zB HB) hb)))
   (try simp only [Act.put, List.setIfInBounds_toArray, List.set_cons_zero, List.set_cons_succ]); go_cut [13] (fun v13 wc => ∃ (kq : Nat) (WK : Bool), v13 = .bool WK ∧ ag (bK.j0 kq l1 WK au ah = some r) ∧ ag (kq ≤ k) ∧ ag (wc.heap[agG]? = some (.cells #[.int .i64 au, (.slice aZ ah.length aW)] 24 (0, 0))) ∧ ag (Below w.heap.size w wc))
   case first =>
    have H := HC6.out; clear HC6; by_cases c10 : a2 = 1
    · rw [if_pos c10] at H; have rR : (a2 == 1) = true := beq_iff_eq.mpr c10; have Rk : (a2 != 1) = false := bne_eq_false_iff_eq.mpr c10; clear c10; (first | rw [rR] | (simp only [nE, qJ]; rw [rR]) | skip); have H' := zA H; clear H; go_wp2; go_meet
      case rel => exact ⟨_, (false), zv, H', ⟨by first | omega | exact Nat.le_refl _⟩, ⟨zK Cm⟩, ⟨zB HB⟩⟩
    · rw [if_neg c10] at H; have rR : (a2 == 1) = false := beq_eq_false_iff_ne.mpr c10; have Rk : (a2 != 1) = true := bne_iff_ne.mpr c10; (first | rw [rR] | (simp only [nE, qJ]; rw [rR]) | skip); have H' := zA H; clear H; go_wp2; go_meet
      case rel => exact ⟨_, ((a2 != 2)), zv, H', ⟨by first | omega | exact Nat.le_refl _⟩, ⟨zK Cm⟩, ⟨zB HB⟩⟩
   case rest =>
    clear HC6
    obtain ⟨kq, WK, rfl, HA, ZE, Cm, HB⟩ := hcut; cases kq with
    | zero => exact absurd HA.out (by simp [bK.j0])
    | succ Y8 =>
     have H := HA.out; clear HA; simp only [bK.j0] at H; by_cases c11 : WK = true
     · subst c11; rw [if_pos rfl] at H; obtain rfl := Option.some.inj H; go_wp2; go_ret; exact ⟨ze, zB HB⟩
     · replace c11 := Bool.eq_false_iff.mpr c11; subst c11; rw [if_neg (show ¬ (false = true) by decide)] at H; replace H := zE H; obtain ⟨t132, A12, H⟩ := H; (try dsimp only at H); by_cases c13 : t132 = true
       · subst c13; rw [if_pos rfl] at H; obtain rfl := Option.some.inj H; obtain ⟨_, _, _, _⟩ := iG Cm; go_wp2_with (first | ((with_reducible refine ay (f := 64) rfl ?_); refine zG (some 24) rfl Tryd.func64 #[.slice A1 l1.length c1, .int .i64 au] ?_; (with_reducible refine (dG.calls Y8 _ _ l1 au true _ ?aI ?aN A12.out).mono ?_); (case aI => exact jB HR1 HB); (case aN => exact rX.out); rintro e w' ⟨rfl, ⟨nd, rfl⟩⟩; refine ⟨_, rfl, ?_⟩)); go_ret; exact ⟨ze, zB HB⟩
       · replace c13 := Bool.eq_false_iff.mpr c13; subst c13; rw [if_neg (show ¬ (false = true) by decide)] at H; obtain rfl := Option.some.inj H; obtain ⟨_, _, _, _⟩ := iG Cm; go_wp2_with (first | ((with_reducible refine ay (f := 64) rfl ?_); refine zG (some 24) rfl Tryd.func64 #[.slice A1 l1.length c1, .int .i64 au] ?_; (with_reducible refine (dG.calls Y8 _ _ l1 au false _ ?aI ?aN A12.out).mono ?_); (case aI => exact jB HR1 HB); (case aN => exact rX.out); rintro e w' ⟨rfl, ⟨nd, rfl⟩⟩; refine ⟨_, rfl, ?_⟩)); go_ret; exact ⟨ze, zB HB⟩
 · rw [if_neg c5] at H; have pM : (t131 == 0) = false := beq_eq_false_iff_ne.mpr c5; have yh : (t131 != 0) = true := bne_iff_ne.mpr c5; obtain rfl := Option.some.inj H; go_enter Tryd.func37, Tryd.ntmps37; go_wp2_with (first | ((with_reducible refine aH (N := 3) rfl ?_); refine zX (N := 3) (cs := #[.int .i64 au, .slice aZ ah.length aW]) (t := 24) ?_; intro agG hg w16 aG hb; have Cm := zA (aG); have ao0 := zA (zW hg HB); have ao1 := zA (zW hg HB); replace HB := zA (af (zB HB) hb); clear hb aG hg; obtain ⟨_, _, _, _⟩ := iG Cm) | ((with_reducible refine ay (f := 41) rfl ?_); refine zG (some 9) rfl Tryd.func41 #[.agg #[.int .i64 au, .slice aZ ah.length aW]] ?_; (with_reducible refine (aX.calls k au _ _ ah t131 _ ?aI ?aN A4.out).mono ?_); (case aI => exact jB cz HB); (case aN => exact dX.out); rintro e w18 ⟨rfl, hb⟩; refine ⟨_, rfl, ?_⟩; replace Cm := zA (dn Cm hb); replace HB := zA (af (zB HB) hb))); go_ret; exact ⟨ze, zB HB⟩
def ig.f (au : Int) (ah : List (aD)) (l1 : List Int) (a2 : Int) : Option (Bool) := if (l1.length : Int) = 0 then (if a2 = 2 then (some (decide (au > 0))) else (some false)) else (some false)
theorem ig.calls (au : Int) (aZ : Option Addr) (aW : Nat) (ah : List (aD)) (A1 : Option Addr) (c1 : Nat) (l1 : List Int) (a2 : Int) (r : Bool) (w : World) (eY : Kd.C gm w aZ ah.length ah) (eZ : ah.length ≤ aW) (hr1 : Kd.C (Kd.int .i64) w A1 l1.length l1) (hc1 : l1.length ≤ c1) (h : ig.f au ah l1 a2 = some r) :
 Calls Tryd.prog 46 #[.agg #[.int .i64 au, .slice aZ ah.length aW], .slice A1 l1.length c1, .int .i64 a2] w fun e w' => e = .returned (.bool r) ∧ Below w.heap.size w w' := by
 have uk := Tryd.underlying24; have cz := zA eY; have dX := zA eZ; clear eY eZ; have HR1 := zA hr1; have rX := zA hc1; clear hr1 hc1; have HB := zA (Below.refl w.heap.size w); have H : (if (l1.length : Int) = 0 then (if a2 = 2 then (some (decide (au > 0))) else (some false)) else (some false)) = some r := h; clear h; by_cases c4 : (l1.length : Int) = 0
 · rw [if_pos c4] at H; have qU : ((l1.length : Int) == 0) = true := beq_iff_eq.mpr c4; have Om : ((l1.length : Int) != 0) = false := bne_eq_false_iff_eq.mpr c4; clear c4; by_cases c5 : a2 = 2
   · rw [if_pos c5] at H; have pM : (a2 == 2) = true := beq_iff_eq.mpr c5; have yh : (a2 != 2) = false := bne_eq_false_iff_eq.mpr c5; clear c5; obtain rfl := Option.some.inj H; go_enter Tryd.func46, Tryd.ntmps46; go_wp2_with (first | ((with_reducible refine aH (N := 3) rfl ?_); refine zX (N := 3) (cs := #[.int .i64 au, .slice aZ ah.length aW]) (t := 24) ?_; intro agI hg w6 aG hb; have abF := zA (aG); have agJ := zA (zW hg HB); have agK := zA (zW hg HB); replace HB := zA (af (zB HB) hb); clear hb aG hg; obtain ⟨_, _, _, _⟩ := iG abF)); go_ret; exact ⟨ze, zB HB⟩
   · rw [if_neg c5] at H; have pM : (a2 == 2) = false := beq_eq_false_iff_ne.mpr c5; have yh : (a2 != 2) = true := bne_iff_ne.mpr c5; obtain rfl := Option.some.inj H; go_enter Tryd.func46, Tryd.ntmps46; go_wp2_with (first | ((with_reducible refine aH (N := 3) rfl ?_); refine zX (N := 3) (cs := #[.int .i64 au, .slice aZ ah.length aW]) (t := 24) ?_; intro agI hg w8 aG hb; have abF := zA (aG); have agJ := zA (zW hg HB); have agK := zA (zW hg HB); replace HB := zA (af (zB HB) hb); clear hb aG hg)); go_ret; exact ⟨ze, zB HB⟩
 · rw [if_neg c4] at H; have qU : ((l1.length : Int) == 0) = false := beq_eq_false_iff_ne.mpr c4; have Om : ((l1.length : Int) != 0) = true := bne_iff_ne.mpr c4; have ao2 : ¬ (l1 = []) := fun h_ => c4 (by rw [h_]; rfl)
   obtain rfl := Option.some.inj H; go_enter Tryd.func46, Tryd.ntmps46; go_wp2_with (first | ((with_reducible refine aH (N := 3) rfl ?_); refine zX (N := 3) (cs := #[.int .i64 au, .slice aZ ah.length aW]) (t := 24) ?_; intro agI hg w9 aG hb; have abF := zA (aG); have agJ := zA (zW hg HB); have agK := zA (zW hg HB); replace HB := zA (af (zB HB) hb); clear hb aG hg)); go_ret; exact ⟨ze, zB HB⟩
def iM.f (l0 : List Int) : Option (List Int) := if l0.length < 17592186044416 then some l0 else none
set_option maxHeartbeats 1000000 in
theorem iM.calls (A0 : Option Addr) (c0 : Nat) (l0 : List Int) (r : List Int) (w : World) (hr0 : Kd.C (Kd.int .i64) w A0 l0.length l0) (hc0 : l0.length ≤ c0) (h : iM.f l0 = some r) :
 Calls Tryd.prog 76 #[.slice A0 l0.length c0] w fun e w' => ∃ Db : Value, e = .returned (Db) ∧ Kd.R (Kd.int .i64) 3 w' w.heap.size (fun _ => True) Db r ∧ Below w.heap.size w w' := by
 unfold iM.f at h; split at h
 case isFalse => exact absurd h (by simp)
 case isTrue hlen =>
 obtain rfl := Option.some.inj h; have uh := zA hr0; clear hr0 h; cases A0 with
 | none =>
  have hz : l0 = [] := by
   have h3 := uh.out.2.2; cases l0 with
   | nil => rfl
   | cons a b => obtain ⟨ad, he, _⟩ := h3 (by simp); cases he
  clear uh; subst hz; have he : ∀ W n c, (binOp .eql 25 (.slice none n c) (.slice none 0 0)).run Tryd.prog W = .ok (.bool true) W := fun W n c => Lib.run_eql_slice_nil W 25 3 none n c 0 0 Tryd.underlying25
  go_enter Tryd.func76, Tryd.ntmps76; go_wp2; go_ret; exact ⟨_, rfl, Kd.wJ _ _ _ _ _, Below.refl _ _⟩
 | some ad =>
  have he : ∀ W n c, (binOp .eql 25 (.slice (some ad) n c) (.slice none 0 0)).run Tryd.prog W = .ok (.bool false) W := fun W n c => Lib.run_eql_slice_nil W 25 3 (some ad) n c 0 0 Tryd.underlying25
  go_enter Tryd.func76, Tryd.ntmps76
  go_wp2_with (first
   | ((with_reducible refine aH (N := 5) rfl ?_); refine Kd.IP (Kd.int .i64) _ 3 ?hg (N := 5) ?hd (xs := ([] : List Int)) (inner := []) (ok := fun _ => True) (tX := fun _ => True) ?hr ?hp (fun _ hk => hk) trivial (Below.refl _ _) (Nat.le_refl _) (by simp) ?_; (case hd => rfl); (case hg => rfl); (case hr => first | (go_simp; done) | (go_simp; rfl)); (case hp => exact gP.none _ _); intro v1 w1 ho hb Ac hn_; have HO := zA ho; have HB := zA hb; clear ho hb Ac hn_)
   | ((with_reducible refine fZ (b := .append) (xs := #[.tmp 5, .tmp 6]) rfl ?_); at_builtin; refine Kd.zz (Kd.int .i64) (w0 := w) w.heap.size rfl (.tmp 5) (.tmp 6) 25 3 (.int .i64 0) 8 rfl Tryd.underlying25 info3 rfl (by decide) (by omega) v1 ([] : List Int) l0 _ _ _ (fun _ => True) (fun _ => False) rfl rfl HO.out (Kd.bu uh.out HB.out) (fun _ _ h => h) (fun _ h => h.elim) (fun _ _ => trivial) HB.out HB.out.size (by simp; omega) ?_; intro v2 w2 ho hb hg hat; clear hg hat))
  go_ret; exact ⟨_, rfl, ho, hb⟩
end Go.Proofs.YtjmdlmogdbhdhaaDoor.P
