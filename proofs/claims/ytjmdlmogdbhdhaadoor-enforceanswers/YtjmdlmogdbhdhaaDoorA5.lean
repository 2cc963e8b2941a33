import Derived.Test.YtjmdlmogdbhdhaaDoorA2
import Derived.Test.YtjmdlmogdbhdhaaDoorA4
import Derived.Test.YtjmdlmogdbhdhaaDoorA3
namespace Go.Proofs.YtjmdlmogdbhdhaaDoor.P
open Go.RowKit Go.Proofs.YtjmdlmogdbhdhaaDoorW.PrintWords Go.Proofs.YtjmdlmogdbhdhaaDoorW.PrintLast Go.Proofs.YtjmdlmogdbhdhaaDoorW.PrintMore
attribute [local go_sem] iI iJ jP jQ gH gI iK iL
set_option linter.unusedVariables false
set_option linter.unusedSimpArgs false
set_option maxHeartbeats 8000000
set_option maxRecDepth 100000
def aK.l0 : Nat → List (aD) → Int → Int → Int → Option ((List (aD)))
 | 0, _, _, _, _ => none
 | k + 1, x0, x5, JO, JP => if x5 < (x0.length : Int) then (if 0 ≤ x5 then ((jA.f ((aa x0 x5).f0) ((aa x0 x5).f1) JO JP).bind fun akV => (if akV = true then (aK.l0 k x0 (wrap64 (x5 + 1)) JO JP) else (if x5 ≤ (x0.length : Int) then ((some (x0.take (x5 : Int).toNat : List (aD))).bind fun Lr => (if ([] : List (aD)).length + Lr.length < 8796093022208 then ((some (([] : List (aD)) ++ Lr : List (aD))).bind fun EC => ((some (([(⟨JO, JP⟩ : aD)] : List (aD)) : List (aD))).bind fun Cy => (if EC.length + Cy.length < 8796093022208 then ((some (EC ++ Cy : List (aD))).bind fun BG => ((some (x0.drop (x5 : Int).toNat : List (aD))).bind fun wG => (if BG.length + wG.length < 8796093022208 then (some (BG ++ wG)) else (none)))) else (none)))) else (none))) else (none)))) else (none)) else (if 0 ≤ x5 then (if x5 ≤ (x0.length : Int) then ((some (x0.take (x5 : Int).toNat : List (aD))).bind fun Ls => (if ([] : List (aD)).length + Ls.length < 8796093022208 then ((some (([] : List (aD)) ++ Ls : List (aD))).bind fun ED => ((some (([(⟨JO, JP⟩ : aD)] : List (aD)) : List (aD))).bind fun Cz => (if ED.length + Cz.length < 8796093022208 then ((some (ED ++ Cz : List (aD))).bind fun BH => ((some (x0.drop (x5 : Int).toNat : List (aD))).bind fun wH => (if BH.length + wH.length < 8796093022208 then (some (BH ++ wH)) else (none)))) else (none)))) else (none))) else (none)) else (none))
def aK.f (k : Nat) (l0 : List (aD)) (cB : Int) (dx : Int) : Option ((List (aD))) := aK.l0 k l0 0 cB dx
def aK.T2 : Bool × List (List Nat × List Nat) := (true, [([], []), ([], []), ([1], [1]), ([0, 2], [0, 2]), ([3], [3]), ([4], [4]), ([4], [4]), ([5, 6, 4], [4, 5, 6]), ([7, 4], [4, 7]), ([4], [4]), ([8, 9, 4, 4], [4, 8, 9]), ([4, 10], [4, 10])])
def aK.B2 : List Nat := [0, 0, 2, 7, 15, 31, 31, 127, 255, 31, 1023, 2047]
theorem aK.abG : oO .any (opsOf Tryd.f61 2) = aK.T2 := by kernel_rfl
theorem aK.Rl : lD aK.T2.2 aK.B2 = true := by kernel_rfl
def aK.T4 : Bool × List (List Nat × List Nat) := (true, [([], []), ([], []), ([0, 1], [0, 1]), ([2], [2]), ([], []), ([4], [4]), ([3, 5, 3], [3, 5]), ([6, 6, 0, 1, 2, 3, 4, 5, 6], [6])])
def aK.B4 : List Nat := [0, 0, 3, 7, 0, 16, 63, 127]
theorem aK.apV : oO .any (opsOf Tryd.f61 4) = aK.T4 := by kernel_rfl
theorem aK.ahw : lD aK.T4.2 aK.B4 = true := by kernel_rfl
theorem aK.calls (k : Nat) (A0 : Option Addr) (c0 : Nat) (l0 : List (aD)) (cB : Int) (dx : Int) (r : List (aD)) (w : World) (hr0 : Kd.C gm w A0 l0.length l0) (hc0 : l0.length ≤ c0) (h : aK.f k l0 cB dx = some r) :
 Calls Tryd.prog 61 #[.slice A0 l0.length c0, .agg #[.int .i64 cB, .int .i64 dx]] w fun e w' => ∃ Db : Value, e = .returned (Db) ∧ Kd.R gm 42 w' w.heap.size (fun _ => True) Db r ∧ Below w.heap.size w w' := by
 have wV := Tryd.underlying42; have uh := zA hr0; have EK := zA hc0; clear hr0 hc0; have HB := zA (Below.refl w.heap.size w); have H : (aK.l0 k l0 0 cB dx) = some r := h; clear h; have H' := zA H; clear H; go_enter Tryd.func61, Tryd.ntmps61; go_wp2_with (first | ((with_reducible refine aH (N := 3) rfl ?_); refine zX (N := 3) (cs := #[.int .i64 cB, .int .i64 dx]) (t := 42) ?_; intro gW hg w3 aG hb; have eD := zA (aG); have azR := zA (zW hg HB); have azS := zA (zW hg HB); replace HB := zA (af (zB HB) hb); clear hb aG hg)); go_loopg [5] k (fun kq v5 w' => ∃ (bL : Int), v5 = .int .i64 bL ∧ ag (aK.l0 kq l0 bL cB dx = some r) ∧ ag (kq ≤ k) ∧ ag (w'.heap[gW]? = some (.cells #[.int .i64 cB, .int .i64 dx] 42 (0, 0))) ∧ ag (Below w.heap.size w w'))
 case atStart => exact ⟨(0), zv, H', ⟨Nat.le_refl _⟩, ⟨zK eD⟩, ⟨zB HB⟩⟩
 case round =>
  clear H'
  obtain ⟨bL, rfl, HA, iU, eD, HB⟩ := hrel; cases gk with
  | zero => exact absurd HA.out (by simp [aK.l0])
  | succ k1 =>
   have H := HA.out; clear HA; simp only [aK.l0] at H; by_cases c4 : bL < (l0.length : Int)
   · rw [if_pos c4] at H; have qU := decide_eq_true c4; clear c4; by_cases c5 : 0 ≤ bL
     · rw [if_pos c5] at H; have pM := decide_eq_true c5; clear c5; replace H := zE H; obtain ⟨akV, A6, H⟩ := H; (try dsimp only at H); by_cases c7 : akV = true
       · subst c7; rw [if_pos rfl] at H; have H' := zA H; clear H; try go_wp2
         replace eD := zA (bO eD.out); replace HB := zA (bn HB.out); have U0 : 0 ≤ (bL : Int) := zo; have U1 : bL < (l0.length : Int) := zo; obtain ⟨AV, akW, xu, xw⟩ := eG uh.out bL U0 U1; have F9 := xw; have Ga := xu; cases akW; replace xu := (zx HB xu :); replace xw := (zx HB xw :); replace U0 := eq_true U0; replace U1 := eq_true U1; refine EJ (n := 12) (S := fun w' => w'.cell? ⟨gW, 0, none⟩ = some (.int .i64 cB) ∧ w'.cell? ⟨gW, 1, none⟩ = some (.int .i64 dx) ∧ w'.cell? (AV.add ((bL).toNat * 2)) = some (.int .i64 ((aa l0 bL).f0)) ∧ w'.cell? ⟨(AV.add ((bL).toNat * 2)).block, (AV.add ((bL).toNat * 2)).off + 1, none⟩ = some (.int .i64 ((aa l0 bL).f1))) (ds := []) aK.abG aK.Rl ⟨(ai eD.out 0).trans rfl, (ai eD.out 1).trans rfl, ((zx HB Ga :)), ((zx HB F9 :))⟩ (fun hHeld qd DY => ?_); generalize wr.drew = w8 at eD HB xu xw hHeld ⊢; refine zp 0 ?_; refine zp 1 ?_; refine zp 2 ?_; refine zp 3 ?_; refine zp 4 ?_; refine zp 5 ?_; refine zp 6 ?_; refine zp 7 ?_; refine zt 8 ?_; refine zt 9 ?_; refine wU 10 (fun K hK => ?_); refine lu Tryd.func82 (by kernel_rfl) rfl #[.agg #[.int .i64 ((aa l0 bL).f0), .int .i64 ((aa l0 bL).f1)], .agg #[.int .i64 cB, .int .i64 dx]] (by rfl) rfl rfl Cc ?_; with_reducible refine (jA.calls ((aa l0 bL).f0) ((aa l0 bL).f1) cB dx true _ A6.out).mono ?_
         rintro e w9 ⟨rfl, hb⟩; refine ⟨_, rfl, ?_⟩; replace eD := zA (dn eD hb); replace HB := zA (af (zB HB) hb); refine hK.out _ _ ⟨(ai eD.out 0).trans rfl, (ai eD.out 1).trans rfl, ((zx HB Ga :)), ((zx HB F9 :))⟩ (fun hHeld => ?_); clear hK K; refine qp 17 ?_; refine zp 11 ?_; refine lK (iZ qd.out (by kernel_rfl)) ?_; try go_wp2
         go_roundg k1
         case measure => have := iU.out; omega
         case rel => exact ⟨(wrap64 (bL + 1)), zv, H', ⟨by have := iU.out; omega⟩, ⟨zK eD⟩, ⟨zB HB⟩⟩
       · replace c7 := Bool.eq_false_iff.mpr c7; subst c7; rw [if_neg (show ¬ (false = true) by decide)] at H; have rR := eq_true (zo : 0 ≤ bL); by_cases c11 : bL ≤ (l0.length : Int)
         · rw [if_pos c11] at H; have EY := eq_true c11; have azT := decide_eq_true c11; clear c11; obtain ⟨Lr, RZ⟩ : ∃ y_ : List (aD), y_ = (l0.take (bL : Int).toNat) := ⟨_, rfl⟩; replace H : (if ([] : List (aD)).length + Lr.length < 8796093022208 then ((some (([] : List (aD)) ++ Lr : List (aD))).bind fun EC => ((some (([(⟨cB, dx⟩ : aD)] : List (aD)) : List (aD))).bind fun Cy => (if EC.length + Cy.length < 8796093022208 then ((some (EC ++ Cy : List (aD))).bind fun BG => ((some (l0.drop (bL : Int).toNat : List (aD))).bind fun wG => (if BG.length + wG.length < 8796093022208 then (some (BG ++ wG)) else (none)))) else (none)))) else (none)) = some r := by first | (rw [RZ]; with_reducible exact H) | (have iW := (Option.bind_some _ _).symm.trans H; rw [RZ]; with_reducible exact iW) | (have iW := (Option.bind_some _ _).symm.trans H; with_reducible exact iW) | with_reducible exact H | (rw [RZ]; exact H) | exact H
           have ahx := zA RZ; clear RZ; by_cases c12 : ([] : List (aD)).length + Lr.length < 8796093022208
           · rw [if_pos c12] at H; have ahy := zA c12; clear c12; obtain ⟨EC, R7⟩ : ∃ y_ : List (aD), y_ = (([] : List (aD)) ++ Lr) := ⟨_, rfl⟩; replace H : ((some (([(⟨cB, dx⟩ : aD)] : List (aD)) : List (aD))).bind fun Cy => (if EC.length + Cy.length < 8796093022208 then ((some (EC ++ Cy : List (aD))).bind fun BG => ((some (l0.drop (bL : Int).toNat : List (aD))).bind fun wG => (if BG.length + wG.length < 8796093022208 then (some (BG ++ wG)) else (none)))) else (none))) = some r := by first | (rw [R7]; with_reducible exact H) | (have iW := (Option.bind_some _ _).symm.trans H; rw [R7]; with_reducible exact iW) | (have iW := (Option.bind_some _ _).symm.trans H; with_reducible exact iW) | with_reducible exact H | (rw [R7]; exact H) | exact H
             have ahz := zA R7; clear R7; obtain ⟨Cy, R8⟩ : ∃ y_ : List (aD), y_ = (([(⟨cB, dx⟩ : aD)] : List (aD))) := ⟨_, rfl⟩; replace H : (if EC.length + Cy.length < 8796093022208 then ((some (EC ++ Cy : List (aD))).bind fun BG => ((some (l0.drop (bL : Int).toNat : List (aD))).bind fun wG => (if BG.length + wG.length < 8796093022208 then (some (BG ++ wG)) else (none)))) else (none)) = some r := by first | (rw [R8]; with_reducible exact H) | (have iW := (Option.bind_some _ _).symm.trans H; rw [R8]; with_reducible exact iW) | (have iW := (Option.bind_some _ _).symm.trans H; with_reducible exact iW) | with_reducible exact H | (rw [R8]; exact H) | exact H
             have Xp := zA R8; clear R8; by_cases c13 : EC.length + Cy.length < 8796093022208
             · rw [if_pos c13] at H; have apW := zA c13; clear c13; obtain ⟨BG, R9⟩ : ∃ y_ : List (aD), y_ = (EC ++ Cy) := ⟨_, rfl⟩; replace H : ((some (l0.drop (bL : Int).toNat : List (aD))).bind fun wG => (if BG.length + wG.length < 8796093022208 then (some (BG ++ wG)) else (none))) = some r := by first | (rw [R9]; with_reducible exact H) | (have iW := (Option.bind_some _ _).symm.trans H; rw [R9]; with_reducible exact iW) | (have iW := (Option.bind_some _ _).symm.trans H; with_reducible exact iW) | with_reducible exact H | (rw [R9]; exact H) | exact H
               have apX := zA R9; clear R9; have azU := eq_true (zo : 0 ≤ bL); have NA := eq_true (zo : bL ≤ (l0.length : Int)); obtain ⟨wG, Sa⟩ : ∃ y_ : List (aD), y_ = (l0.drop (bL : Int).toNat) := ⟨_, rfl⟩; replace H : (if BG.length + wG.length < 8796093022208 then (some (BG ++ wG)) else (none)) = some r := by first | (rw [Sa]; with_reducible exact H) | (have iW := (Option.bind_some _ _).symm.trans H; rw [Sa]; with_reducible exact iW) | (have iW := (Option.bind_some _ _).symm.trans H; with_reducible exact iW) | with_reducible exact H | (rw [Sa]; exact H) | exact H
               have ahA := zA Sa; clear Sa; by_cases c16 : BG.length + wG.length < 8796093022208
               · rw [if_pos c16] at H; have acu := zA c16; clear c16; obtain ⟨avt, Sb⟩ : ∃ y_ : List (aD), y_ = (BG ++ wG) := ⟨_, rfl⟩; replace H : (some avt) = some r := by first | (rw [Sb]; with_reducible exact H) | (have iW := (Option.bind_some _ _).symm.trans H; rw [Sb]; with_reducible exact iW) | (have iW := (Option.bind_some _ _).symm.trans H; with_reducible exact iW) | with_reducible exact H | (rw [Sb]; exact H) | exact H
                 have apY := zA Sb; clear Sb; obtain rfl := Option.some.inj H; try go_wp2
                 replace eD := zA (bO eD.out); replace HB := zA (bn HB.out); have U0 : 0 ≤ (bL : Int) := zo; have U1 : bL < (l0.length : Int) := zo; obtain ⟨AV, akW, xu, xw⟩ := eG uh.out bL U0 U1; have F9 := xw; have Ga := xu; cases akW; replace xu := (zx HB xu :); replace xw := (zx HB xw :); replace U0 := eq_true U0; replace U1 := eq_true U1; refine EJ (n := 12) (S := fun w' => w'.cell? ⟨gW, 0, none⟩ = some (.int .i64 cB) ∧ w'.cell? ⟨gW, 1, none⟩ = some (.int .i64 dx) ∧ w'.cell? (AV.add ((bL).toNat * 2)) = some (.int .i64 ((aa l0 bL).f0)) ∧ w'.cell? ⟨(AV.add ((bL).toNat * 2)).block, (AV.add ((bL).toNat * 2)).off + 1, none⟩ = some (.int .i64 ((aa l0 bL).f1))) (ds := []) aK.abG aK.Rl ⟨(ai eD.out 0).trans rfl, (ai eD.out 1).trans rfl, ((zx HB Ga :)), ((zx HB F9 :))⟩ (fun hHeld qd DY => ?_); generalize wr.drew = w17 at eD HB xu xw hHeld ⊢; refine zp 0 ?_; refine zp 1 ?_; refine zp 2 ?_; refine zp 3 ?_; refine zp 4 ?_; refine zp 5 ?_; refine zp 6 ?_; refine zp 7 ?_; refine zt 8 ?_; refine zt 9 ?_; refine wU 10 (fun K hK => ?_); refine lu Tryd.func82 (by kernel_rfl) rfl #[.agg #[.int .i64 ((aa l0 bL).f0), .int .i64 ((aa l0 bL).f1)], .agg #[.int .i64 cB, .int .i64 dx]] (by rfl) rfl rfl Cc ?_; with_reducible refine (jA.calls ((aa l0 bL).f0) ((aa l0 bL).f1) cB dx false _ A6.out).mono ?_
                 rintro e w18 ⟨rfl, hb⟩; refine ⟨_, rfl, ?_⟩; replace eD := zA (dn eD hb); replace HB := zA (af (zB HB) hb); refine hK.out _ _ ⟨(ai eD.out 0).trans rfl, (ai eD.out 1).trans rfl, ((zx HB Ga :)), ((zx HB F9 :))⟩ (fun hHeld => ?_); clear hK K; refine qp 17 ?_; refine zp 11 ?_; refine lK (iZ qd.out (by kernel_rfl)) ?_; try go_wp2
                 replace eD := zA (bO eD.out); replace HB := zA (bn HB.out); have q20 : (bL : Int) ≤ ((l0.length : Int) : Int) := zo; obtain ⟨aCM, ahB, _, apZ, _⟩ := info_parts nA; have Xq : l0.length ≤ c0 := EK.out; have ap0 : Kd.C gm _ (some AV) l0.length l0 := uh.out; have akX := NY (P := Tryd.prog) 22 42 .i64 Tryd.underlying22 ahB (some AV) l0.length c0 bL zo q20 Xq; have akY := Kd.NZ (m := (bL : Int).toNat) ap0 (by omega); have akZ : Lr.length = (bL : Int).toNat := (by rw [ahx.out, List.length_take]; omega); rw [← ahx.out] at akY; rw [← akZ] at akX; have acv := zA akY; have azV := zA (show Lr.length ≤ c0 from by omega); clear akY ap0 Xq ahB apZ; have aCN := zA akZ; clear akZ; replace q20 := eq_true q20; refine EJ (n := 8) (S := fun w' => w'.cell? ⟨gW, 0, none⟩ = some (.int .i64 cB) ∧ w'.cell? ⟨gW, 1, none⟩ = some (.int .i64 dx)) (ds := []) aK.apV aK.ahw ⟨(ai eD.out 0).trans rfl, (ai eD.out 1).trans rfl⟩ (fun hHeld qd DY => ?_); generalize w18.drew = w19 at eD HB acv hHeld ⊢; refine zp 0 ?_; refine zp 1 ?_; refine zp 2 ?_; refine zt 4 ?_; refine Cb (σ := Value × Value) 2 #[true, true, true, true, true, true, false, false] (fun s_ => [(24, s_.1), (26, s_.2)]) (fun s_ w' => (w'.cell? ⟨gW, 0, none⟩ = some (.int .i64 cB) ∧ w'.cell? ⟨gW, 1, none⟩ = some (.int .i64 dx)) ∧ (Kd.R gm 42 w' w.heap.size (fun k_ => some k_ ≠ (s_.2 : Value).ownBlock ∧ k_ ≠ gW) s_.1 EC) ∧ (Kd.R gm 42 w' w.heap.size (fun k_ => some k_ ≠ (s_.1 : Value).ownBlock ∧ k_ ≠ gW) s_.2 Cy) ∧ (w'.heap[gW]? = some (.cells #[.int .i64 cB, .int .i64 dx] 42 (0, 0))) ∧ (Below w.heap.size w w')) ?_ ?_; rotate_left
                 · intro vU; refine Ke (i := 3) (j := 5) (Ni := some 24) (Nj := some 26) #[true, true, true, true, true, false, false, false] #[true, true, true, false, true, true, false, false] rfl rfl rfl rfl (wB qd.out (by kernel_rfl)) (by decide) (by decide) (fun K hK => ?_) (fun K hK => ?_)
                   · refine Kd.jZ gm (w0 := w) w.heap.size (by rfl) (.const (.slice none 0 0)) (.tmp 23) 22 42 (.agg #[(.int .i64 0), (.int .i64 0)]) 16 rfl Tryd.underlying22 nA rfl (by decide) (by omega) (.slice none 0 0) ([] : List (aD)) Lr _ _ _ (fun k_ => k_ ≠ gW) (fun _ => False) rfl rfl ?aO ?aR (fun _ _ h => h) (fun _ h => h.elim) ?aF ?aB ?aS ?aL ?_; (case aR => repeat (first | exact (Kd.bu acv.out HB.out) | (with_reducible refine Kd.dY ?_ _) | (with_reducible refine Kd.dZ ?_ _) | (with_reducible refine Kd.fB ?_))); (case aB => exact (zB HB)); (case aF => exact (fun k_ hk => Kd.ug (g := gW) (o := .cells #[.int .i64 cB, .int .i64 dx] 42 (0, 0)) (zK eD) k_ hk)); (case aO => exact ((Kd.wJ _ _ _ _ (fun k_ => k_ ≠ gW)))); (case aS => exact (aJ (zB HB))); (case aL => have := ahy.out; omega); intro U2 w21 ho hb hg hat; rw [← ahz.out] at ho; have En := zA (ho); replace eD := zA (bZ (g := gW) (o := .cells #[.int .i64 cB, .int .i64 dx] 42 (0, 0)) (zK eD) hg (by simp [Value.ownBlock])); replace HB := zA (hb); clear ho hb hg hat; refine hK.out _ _ ⟨(ai eD.out 0).trans rfl, (ai eD.out 1).trans rfl⟩ (fun hHeld => ?_); clear hK K; refine qp 24 ?_; refine wU 5 (fun K hK => ?_); refine Kd.uS gm _ 42 ?hg (N := 26) ?hd (xs := ([(⟨cB, dx⟩ : aD)] : List (aD))) (inner := [.int .i64 cB, .int .i64 dx]) (ok := fun _ => True) (tX := fun _ => True) ?hr ?hp (fun _ hk => hk) trivial (Below.refl _ _) (Nat.le_refl _) (by simp) ?_; (case hd => rfl); (case hg => rfl); (case hr => first | (go_simp; done) | (go_simp; rfl)); (case hp => exact (gP.c2 (show Kd.M gm _ _ _ (⟨cB, dx⟩ : aD) [.int .i64 cB, .int .i64 dx] from (mR _ _ _ (⟨cB, dx⟩ : aD) )) (gP.none _ _))); intro Sc w22 Zp hb Ac lS; clear Ac lS; (first | rw [← Xp.out] at Zp | (simp only [Int.reduceToNat] at Zp; rw [← Xp.out] at Zp)); have yC := zA (Kd.dw (Kd.GY (Kd.gz Zp (Kd.kP (zR En))) (g := gW) (o := .cells #[.int .i64 cB, .int .i64 dx] 42 (0, 0)) (zK eD)) (aJ (zB HB))); replace En := zA (Kd.dQ (zR En) (Kd.fe Zp) hb); replace eD := zA (dn eD hb); replace HB := zA (af (zB HB) hb); clear hb Zp; refine hK.out _ _ ⟨(ai eD.out 0).trans rfl, (ai eD.out 1).trans rfl⟩ (fun hHeld => ?_); clear hK K; refine qp 26 ?_; exact Jm (vU (U2, Sc) _ ⟨hHeld, (by refine jF ?_; exact Kd.aQ En.out (fun _ hk => ⟨hk.2, hk.1⟩)), (by refine jF ?_; exact Kd.aQ yC.out (fun _ hk => ⟨hk.1.2, hk.2⟩)), (zK eD), (zB HB)⟩)
                   · refine Kd.uS gm _ 42 ?hg (N := 26) ?hd (xs := ([(⟨cB, dx⟩ : aD)] : List (aD))) (inner := [.int .i64 cB, .int .i64 dx]) (ok := fun _ => True) (tX := fun _ => True) ?hr ?hp (fun _ hk => hk) trivial (Below.refl _ _) (Nat.le_refl _) (by simp) ?_; (case hd => rfl); (case hg => rfl); (case hr => first | (go_simp; done) | (go_simp; rfl)); (case hp => exact (gP.c2 (show Kd.M gm _ _ _ (⟨cB, dx⟩ : aD) [.int .i64 cB, .int .i64 dx] from (mR _ _ _ (⟨cB, dx⟩ : aD) )) (gP.none _ _))); intro Sc w21 acw hb Ac lS; clear Ac lS; (first | rw [← Xp.out] at acw | (simp only [Int.reduceToNat] at acw; rw [← Xp.out] at acw)); have yC := zA (Kd.dw (Kd.GY acw (g := gW) (o := .cells #[.int .i64 cB, .int .i64 dx] 42 (0, 0)) (zK eD)) (aJ (zB HB))); replace eD := zA (dn eD hb); replace HB := zA (af (zB HB) hb); clear hb acw; refine hK.out _ _ ⟨(ai eD.out 0).trans rfl, (ai eD.out 1).trans rfl⟩ (fun hHeld => ?_); clear hK K; refine qp 26 ?_; refine wU 3 (fun K hK => ?_); refine Kd.jZ gm (w0 := w) w.heap.size (by rfl) (.const (.slice none 0 0)) (.tmp 23) 22 42 (.agg #[(.int .i64 0), (.int .i64 0)]) 16 rfl Tryd.underlying22 nA rfl (by decide) (by omega) (.slice none 0 0) ([] : List (aD)) Lr _ _ _ (fun k_ => some k_ ≠ (Sc : Value).ownBlock ∧ k_ ≠ gW) (fun _ => False) rfl rfl ?aO ?aR (fun _ _ h => h) (fun _ h => h.elim) ?aF ?aB ?aS ?aL ?_; (case aR => repeat (first | exact (Kd.bu acv.out HB.out) | (with_reducible refine Kd.dY ?_ _) | (with_reducible refine Kd.dZ ?_ _) | (with_reducible refine Kd.fB ?_))); (case aB => exact (zB HB)); (case aF => exact (fun k_ hk => ⟨Kd.fresh' (Kd.kP (zR yC)) k_ hk, Kd.ug (g := gW) (o := .cells #[.int .i64 cB, .int .i64 dx] 42 (0, 0)) (zK eD) k_ hk⟩)); (case aO => exact ((Kd.wJ _ _ _ _ (fun k_ => some k_ ≠ (Sc : Value).ownBlock ∧ k_ ≠ gW)))); (case aS => exact (aJ (zB HB))); (case aL => have := ahy.out; omega); intro U2 w23 ho hb hg hat; rw [← ahz.out] at ho; have En := zA (ho); replace eD := zA (bZ (g := gW) (o := .cells #[.int .i64 cB, .int .i64 dx] 42 (0, 0)) (zK eD) hg (by simp [Value.ownBlock])); replace yC := zA (Kd.wQ (Kd.IL (zR yC)) hg hat); replace HB := zA (hb); clear ho hb hg hat; refine hK.out _ _ ⟨(ai eD.out 0).trans rfl, (ai eD.out 1).trans rfl⟩ (fun hHeld => ?_); clear hK K; refine qp 24 ?_; exact Jm (vU (U2, Sc) _ ⟨hHeld, (zR En), (by refine jF ?_; exact Kd.aQ yC.out (fun _ hk => ⟨hk.2, hk.1.2⟩)), (zK eD), (zB HB)⟩)
                 rintro ⟨U2, Sc⟩ w24 ⟨EW, Df, Dg, Dh, Di⟩; have En : ag (Kd.R gm 42 w24 w.heap.size (fun k_ => some k_ ≠ (Sc : Value).ownBlock ∧ k_ ≠ gW) U2 EC) := ⟨Df⟩; have yC : ag (Kd.R gm 42 w24 w.heap.size (fun k_ => some k_ ≠ (U2 : Value).ownBlock ∧ k_ ≠ gW) Sc Cy) := ⟨Dg⟩; replace eD : ag (w24.heap[gW]? = some (.cells #[.int .i64 cB, .int .i64 dx] 42 (0, 0))) := ⟨Dh⟩; replace HB : ag (Below w.heap.size w w24) := ⟨Di⟩; clear Df Dg Dh Di; have hHeld : w24.cell? ⟨gW, 0, none⟩ = some (.int .i64 cB) ∧ w24.cell? ⟨gW, 1, none⟩ = some (.int .i64 dx) := EW; obtain ⟨FC, FD, ⟨⟩⟩ := Ce (Kd.bD yC.out); refine ZC ?_; refine wU 6 (fun K hK => ?_); refine Kd.jZ gm (w0 := w) w.heap.size (by rfl) (.tmp 24) (.tmp 26) 22 42 (.agg #[(.int .i64 0), (.int .i64 0)]) 16 rfl Tryd.underlying22 nA rfl (by decide) (by omega) U2 EC Cy _ _ _ (fun k_ => some k_ ≠ (.slice FC Cy.length FD : Value).ownBlock ∧ k_ ≠ gW) (fun _ => False) rfl rfl ?aO ?aR (fun _ _ h => h) (fun _ h => h.elim) ?aF ?aB ?aS ?aL ?_; (case aR => repeat (first | exact (Kd.aU yC.out).2.2 | (with_reducible refine Kd.dY ?_ _) | (with_reducible refine Kd.dZ ?_ _) | (with_reducible refine Kd.fB ?_))); (case aB => exact (zB HB)); (case aF => exact (fun k_ hk => ⟨Kd.fresh' (Kd.kP (zR yC)) k_ hk, Kd.ug (g := gW) (o := .cells #[.int .i64 cB, .int .i64 dx] 42 (0, 0)) (zK eD) k_ hk⟩)); (case aO => exact (zR En)); (case aS => exact (aJ (zB HB))); (case aL => have := apW.out; omega); intro avv w25 ho hb hg hat; rw [← apX.out] at ho; have acy := zA (ho); replace eD := zA (bZ (g := gW) (o := .cells #[.int .i64 cB, .int .i64 dx] 42 (0, 0)) (zK eD) hg (Kd.Bh En.out (fun _ hk => hk.2))); replace yC := zA (Kd.wQ (ok := (fun k_ => k_ ≠ gW)) (by refine jF ?_; exact Kd.aQ yC.out (fun _ hk => ⟨hk.2, hk.1⟩)) hg hat); replace HB := zA (hb); clear En; clear ho hb hg hat; refine hK.out _ _ ⟨(ai eD.out 0).trans rfl, (ai eD.out 1).trans rfl⟩ (fun hHeld => ?_); clear hK K; refine qp 27 ?_; refine zp 7 ?_; refine lK (iZ qd.out (by kernel_rfl)) ?_; have q27 : (bL : Int) ≤ ((l0.length : Int) : Int) := zo; obtain ⟨aCO, ahC, _, ahD, _⟩ := info_parts nA; have Pb : l0.length ≤ c0 := EK.out; have ap1 : Kd.C gm _ (some AV) l0.length l0 := uh.out; have avx : (0 : Int) ≤ (bL : Int) := zo; have ak0 := Qh (P := Tryd.prog) 22 42 .i64 Tryd.underlying22 ahC 2 ahD (some AV) l0.length c0 bL avx q27; have acz := Kd.ZR (m := (bL : Int).toNat) (c := c0) ap1 (by omega) Pb; obtain ⟨A27, afb⟩ : ∃ A1, A1 = (if c0 = (bL : Int).toNat then (some AV) else ((some AV) : Option Addr).map (·.add ((bL : Int).toNat * 2))) := ⟨_, rfl⟩; obtain ⟨Tx, hc27⟩ : ∃ c1, c1 = c0 - (bL : Int).toNat := ⟨_, rfl⟩; have hy27 : wG.length = l0.length - (bL : Int).toNat := (by rw [ahA.out, List.length_drop] <;> omega); rw [show (l0).drop (bL : Int).toNat = wG from ahA.out.symm] at acz; replace acz : Kd.C gm _ A27 wG.length wG := (by rw [afb]; exact acz); rw [← hy27, ← afb, ← hc27] at ak0; have ap2 := zA acz; have azX := zA (show wG.length ≤ Tx from by rw [hy27, hc27]; exact Nat.sub_le_sub_right Pb _); clear acz ap1 Pb ahC ahD hc27; have aCQ := zA hy27; have aCR := zA afb; clear hy27 afb; replace q27 := eq_true q27; try go_wp2_with (first | ((with_reducible refine fZ (b := .append) (xs := #[.tmp 28, .tmp 31]) rfl ?_); at_builtin; refine Kd.zz gm (w0 := w) w.heap.size rfl (.tmp 28) (.tmp 31) 22 42 (.agg #[(.int .i64 0), (.int .i64 0)]) 16 rfl Tryd.underlying22 nA rfl (by decide) (by omega) avv BG wG _ _ _ (fun k_ => some k_ ≠ (.slice FC Cy.length FD : Value).ownBlock ∧ k_ ≠ gW) (fun _ => False) rfl rfl ?aO ?aR (fun _ _ h => h) (fun _ h => h.elim) ?aF ?aB ?aS ?aL ?_; (case aR => repeat (first | exact (Kd.bu ap2.out HB.out) | (with_reducible refine Kd.dY ?_ _) | (with_reducible refine Kd.dZ ?_ _) | (with_reducible refine Kd.fB ?_))); (case aB => exact (zB HB)); (case aF => exact (fun k_ hk => ⟨Kd.fresh' (Kd.kP (zR yC)) k_ hk, Kd.ug (g := gW) (o := .cells #[.int .i64 cB, .int .i64 dx] 42 (0, 0)) (zK eD) k_ hk⟩)); (case aO => exact (zR acy)); (case aS => exact (aJ (zB HB))); (case aL => have := acu.out; omega); intro aCS w28 ho hb hg hat; rw [← apY.out] at ho; have ap3 := zA (ho); replace eD := zA (bZ (g := gW) (o := .cells #[.int .i64 cB, .int .i64 dx] 42 (0, 0)) (zK eD) hg (Kd.Bh acy.out (fun _ hk => hk.2))); replace yC := zA (Kd.wQ (ok := (fun k_ => k_ ≠ gW)) (zR yC) hg hat); replace HB := zA (hb); clear acy; clear ho hb hg hat))
                 go_ret; exact ⟨_, ze, by refine jF ?_; exact Kd.aQ ap3.out (fun _ hk => trivial), zB HB⟩
               · rw [if_neg c16] at H; exact absurd H (by simp)
             · rw [if_neg c13] at H; exact absurd H (by simp)
           · rw [if_neg c12] at H; exact absurd H (by simp)
         · rw [if_neg c11] at H; exact absurd H (by simp)
     · rw [if_neg c5] at H; exact absurd H (by simp)
   · rw [if_neg c4] at H; have qU := decide_eq_false c4; clear c4; by_cases RQ : 0 ≤ bL
     · rw [if_pos RQ] at H; have ahE := eq_true RQ; have azY := decide_eq_true RQ; clear RQ; by_cases Cf : bL ≤ (l0.length : Int)
       · rw [if_pos Cf] at H; have IY := eq_true Cf; have ahF := decide_eq_true Cf; clear Cf; obtain ⟨Ls, Sd⟩ : ∃ y_ : List (aD), y_ = (l0.take (bL : Int).toNat) := ⟨_, rfl⟩; replace H : (if ([] : List (aD)).length + Ls.length < 8796093022208 then ((some (([] : List (aD)) ++ Ls : List (aD))).bind fun ED => ((some (([(⟨cB, dx⟩ : aD)] : List (aD)) : List (aD))).bind fun Cz => (if ED.length + Cz.length < 8796093022208 then ((some (ED ++ Cz : List (aD))).bind fun BH => ((some (l0.drop (bL : Int).toNat : List (aD))).bind fun wH => (if BH.length + wH.length < 8796093022208 then (some (BH ++ wH)) else (none)))) else (none)))) else (none)) = some r := by first | (rw [Sd]; with_reducible exact H) | (have iW := (Option.bind_some _ _).symm.trans H; rw [Sd]; with_reducible exact iW) | (have iW := (Option.bind_some _ _).symm.trans H; with_reducible exact iW) | with_reducible exact H | (rw [Sd]; exact H) | exact H
         have ahG := zA Sd; clear Sd; by_cases c31 : ([] : List (aD)).length + Ls.length < 8796093022208
         · rw [if_pos c31] at H; have ahH := zA c31; clear c31; obtain ⟨ED, Sg⟩ : ∃ y_ : List (aD), y_ = (([] : List (aD)) ++ Ls) := ⟨_, rfl⟩; replace H : ((some (([(⟨cB, dx⟩ : aD)] : List (aD)) : List (aD))).bind fun Cz => (if ED.length + Cz.length < 8796093022208 then ((some (ED ++ Cz : List (aD))).bind fun BH => ((some (l0.drop (bL : Int).toNat : List (aD))).bind fun wH => (if BH.length + wH.length < 8796093022208 then (some (BH ++ wH)) else (none)))) else (none))) = some r := by first | (rw [Sg]; with_reducible exact H) | (have iW := (Option.bind_some _ _).symm.trans H; rw [Sg]; with_reducible exact iW) | (have iW := (Option.bind_some _ _).symm.trans H; with_reducible exact iW) | with_reducible exact H | (rw [Sg]; exact H) | exact H
           have ahI := zA Sg; clear Sg; obtain ⟨Cz, Si⟩ : ∃ y_ : List (aD), y_ = (([(⟨cB, dx⟩ : aD)] : List (aD))) := ⟨_, rfl⟩; replace H : (if ED.length + Cz.length < 8796093022208 then ((some (ED ++ Cz : List (aD))).bind fun BH => ((some (l0.drop (bL : Int).toNat : List (aD))).bind fun wH => (if BH.length + wH.length < 8796093022208 then (some (BH ++ wH)) else (none)))) else (none)) = some r := by first | (rw [Si]; with_reducible exact H) | (have iW := (Option.bind_some _ _).symm.trans H; rw [Si]; with_reducible exact iW) | (have iW := (Option.bind_some _ _).symm.trans H; with_reducible exact iW) | with_reducible exact H | (rw [Si]; exact H) | exact H
           have Xr := zA Si; clear Si; by_cases c32 : ED.length + Cz.length < 8796093022208
           · rw [if_pos c32] at H; have ap4 := zA c32; clear c32; obtain ⟨BH, Sj⟩ : ∃ y_ : List (aD), y_ = (ED ++ Cz) := ⟨_, rfl⟩; replace H : ((some (l0.drop (bL : Int).toNat : List (aD))).bind fun wH => (if BH.length + wH.length < 8796093022208 then (some (BH ++ wH)) else (none))) = some r := by first | (rw [Sj]; with_reducible exact H) | (have iW := (Option.bind_some _ _).symm.trans H; rw [Sj]; with_reducible exact iW) | (have iW := (Option.bind_some _ _).symm.trans H; with_reducible exact iW) | with_reducible exact H | (rw [Sj]; exact H) | exact H
             have ap5 := zA Sj; clear Sj; have I9 := eq_true (zo : 0 ≤ bL); have KD := eq_true (zo : bL ≤ (l0.length : Int)); obtain ⟨wH, Sk⟩ : ∃ y_ : List (aD), y_ = (l0.drop (bL : Int).toNat) := ⟨_, rfl⟩; replace H : (if BH.length + wH.length < 8796093022208 then (some (BH ++ wH)) else (none)) = some r := by first | (rw [Sk]; with_reducible exact H) | (have iW := (Option.bind_some _ _).symm.trans H; rw [Sk]; with_reducible exact iW) | (have iW := (Option.bind_some _ _).symm.trans H; with_reducible exact iW) | with_reducible exact H | (rw [Sk]; exact H) | exact H
             have ahJ := zA Sk; clear Sk; by_cases Fa : BH.length + wH.length < 8796093022208
             · rw [if_pos Fa] at H; have aaM := zA Fa; clear Fa; obtain ⟨avy, Sl⟩ : ∃ y_ : List (aD), y_ = (BH ++ wH) := ⟨_, rfl⟩; replace H : (some avy) = some r := by first | (rw [Sl]; with_reducible exact H) | (have iW := (Option.bind_some _ _).symm.trans H; rw [Sl]; with_reducible exact iW) | (have iW := (Option.bind_some _ _).symm.trans H; with_reducible exact iW) | with_reducible exact H | (rw [Sl]; exact H) | exact H
               have ap6 := zA Sl; clear Sl; obtain rfl := Option.some.inj H; try go_wp2
               replace eD := zA (bO eD.out); replace HB := zA (bn HB.out); refine yc (n := 12) (S := fun w' => True) (ds := []) #[false, false, false, false, false, false, false, false, false, false, false, false] (by kernel_rfl) rfl rfl trivial (fun hHeld => ?_); refine z8 aK.abG aK.Rl (fun qd DY => ?_); generalize wr.drew = w36 at eD HB hHeld ⊢; refine zp 0 ?_; refine zp 1 ?_; refine zp 2 ?_; refine zp 3 ?_; refine zp 4 ?_; refine zq 5 ?_; refine zq 6 ?_; refine zq 7 ?_; refine zq 8 ?_; refine zq 9 ?_; refine zq 10 ?_; refine zp 11 ?_; refine lK (iZ qd.out (by kernel_rfl)) ?_; try go_wp2
               replace eD := zA (bO eD.out); replace HB := zA (bn HB.out); have q38 : (bL : Int) ≤ ((l0.length : Int) : Int) := zo; obtain ⟨aCT, ahK, _, ap7, _⟩ := info_parts nA; have Xt : l0.length ≤ c0 := EK.out; have ap8 : Kd.C gm _ A0 l0.length l0 := uh.out; have ak1 := NY (P := Tryd.prog) 22 42 .i64 Tryd.underlying22 ahK A0 l0.length c0 bL zo q38 Xt; have ak2 := Kd.NZ (m := (bL : Int).toNat) ap8 (by omega); have hy38 : Ls.length = (bL : Int).toNat := (by rw [ahG.out, List.length_take]; omega); rw [← ahG.out] at ak2; rw [← hy38] at ak1; have acA := zA ak2; have azZ := zA (show Ls.length ≤ c0 from by omega); clear ak2 ap8 Xt ahK ap7; have aCU := zA hy38; clear hy38; replace q38 := eq_true q38; refine EJ (n := 8) (S := fun w' => w'.cell? ⟨gW, 0, none⟩ = some (.int .i64 cB) ∧ w'.cell? ⟨gW, 1, none⟩ = some (.int .i64 dx)) (ds := []) aK.apV aK.ahw ⟨(ai eD.out 0).trans rfl, (ai eD.out 1).trans rfl⟩ (fun hHeld qd DY => ?_); generalize w36.drew = w37 at eD HB acA hHeld ⊢; refine zp 0 ?_; refine zp 1 ?_; refine zp 2 ?_; refine zt 4 ?_; refine Cb (σ := Value × Value) 2 #[true, true, true, true, true, true, false, false] (fun s_ => [(24, s_.1), (26, s_.2)]) (fun s_ w' => (w'.cell? ⟨gW, 0, none⟩ = some (.int .i64 cB) ∧ w'.cell? ⟨gW, 1, none⟩ = some (.int .i64 dx)) ∧ (Kd.R gm 42 w' w.heap.size (fun k_ => some k_ ≠ (s_.2 : Value).ownBlock ∧ k_ ≠ gW) s_.1 ED) ∧ (Kd.R gm 42 w' w.heap.size (fun k_ => some k_ ≠ (s_.1 : Value).ownBlock ∧ k_ ≠ gW) s_.2 Cz) ∧ (w'.heap[gW]? = some (.cells #[.int .i64 cB, .int .i64 dx] 42 (0, 0))) ∧ (Below w.heap.size w w')) ?_ ?_; rotate_left
               · intro vU; refine Ke (i := 3) (j := 5) (Ni := some 24) (Nj := some 26) #[true, true, true, true, true, false, false, false] #[true, true, true, false, true, true, false, false] rfl rfl rfl rfl (wB qd.out (by kernel_rfl)) (by decide) (by decide) (fun K hK => ?_) (fun K hK => ?_)
                 · refine Kd.jZ gm (w0 := w) w.heap.size (by rfl) (.const (.slice none 0 0)) (.tmp 23) 22 42 (.agg #[(.int .i64 0), (.int .i64 0)]) 16 rfl Tryd.underlying22 nA rfl (by decide) (by omega) (.slice none 0 0) ([] : List (aD)) Ls _ _ _ (fun k_ => k_ ≠ gW) (fun _ => False) rfl rfl ?aO ?aR (fun _ _ h => h) (fun _ h => h.elim) ?aF ?aB ?aS ?aL ?_; (case aR => repeat (first | exact (Kd.bu acA.out HB.out) | (with_reducible refine Kd.dY ?_ _) | (with_reducible refine Kd.dZ ?_ _) | (with_reducible refine Kd.fB ?_))); (case aB => exact (zB HB)); (case aF => exact (fun k_ hk => Kd.ug (g := gW) (o := .cells #[.int .i64 cB, .int .i64 dx] 42 (0, 0)) (zK eD) k_ hk)); (case aO => exact ((Kd.wJ _ _ _ _ (fun k_ => k_ ≠ gW)))); (case aS => exact (aJ (zB HB))); (case aL => have := ahH.out; omega); intro U3 w39 ho hb hg hat; rw [← ahI.out] at ho; have Eo := zA (ho); replace eD := zA (bZ (g := gW) (o := .cells #[.int .i64 cB, .int .i64 dx] 42 (0, 0)) (zK eD) hg (by simp [Value.ownBlock])); replace HB := zA (hb); clear ho hb hg hat; refine hK.out _ _ ⟨(ai eD.out 0).trans rfl, (ai eD.out 1).trans rfl⟩ (fun hHeld => ?_); clear hK K; refine qp 24 ?_; refine wU 5 (fun K hK => ?_); refine Kd.uS gm _ 42 ?hg (N := 26) ?hd (xs := ([(⟨cB, dx⟩ : aD)] : List (aD))) (inner := [.int .i64 cB, .int .i64 dx]) (ok := fun _ => True) (tX := fun _ => True) ?hr ?hp (fun _ hk => hk) trivial (Below.refl _ _) (Nat.le_refl _) (by simp) ?_; (case hd => rfl); (case hg => rfl); (case hr => first | (go_simp; done) | (go_simp; rfl)); (case hp => exact (gP.c2 (show Kd.M gm _ _ _ (⟨cB, dx⟩ : aD) [.int .i64 cB, .int .i64 dx] from (mR _ _ _ (⟨cB, dx⟩ : aD) )) (gP.none _ _))); intro Sm w40 Zq hb Ac lS; clear Ac lS; (first | rw [← Xr.out] at Zq | (simp only [Int.reduceToNat] at Zq; rw [← Xr.out] at Zq)); have yD := zA (Kd.dw (Kd.GY (Kd.gz Zq (Kd.kP (zR Eo))) (g := gW) (o := .cells #[.int .i64 cB, .int .i64 dx] 42 (0, 0)) (zK eD)) (aJ (zB HB))); replace Eo := zA (Kd.dQ (zR Eo) (Kd.fe Zq) hb); replace eD := zA (dn eD hb); replace HB := zA (af (zB HB) hb); clear hb Zq; refine hK.out _ _ ⟨(ai eD.out 0).trans rfl, (ai eD.out 1).trans rfl⟩ (fun hHeld => ?_); clear hK K; refine qp 26 ?_; exact Jm (vU (U3, Sm) _ ⟨hHeld, (by refine jF ?_; exact Kd.aQ Eo.out (fun _ hk => ⟨hk.2, hk.1⟩)), (by refine jF ?_; exact Kd.aQ yD.out (fun _ hk => ⟨hk.1.2, hk.2⟩)), (zK eD), (zB HB)⟩)
                 · refine Kd.uS gm _ 42 ?hg (N := 26) ?hd (xs := ([(⟨cB, dx⟩ : aD)] : List (aD))) (inner := [.int .i64 cB, .int .i64 dx]) (ok := fun _ => True) (tX := fun _ => True) ?hr ?hp (fun _ hk => hk) trivial (Below.refl _ _) (Nat.le_refl _) (by simp) ?_; (case hd => rfl); (case hg => rfl); (case hr => first | (go_simp; done) | (go_simp; rfl)); (case hp => exact (gP.c2 (show Kd.M gm _ _ _ (⟨cB, dx⟩ : aD) [.int .i64 cB, .int .i64 dx] from (mR _ _ _ (⟨cB, dx⟩ : aD) )) (gP.none _ _))); intro Sm w39 acB hb Ac lS; clear Ac lS; (first | rw [← Xr.out] at acB | (simp only [Int.reduceToNat] at acB; rw [← Xr.out] at acB)); have yD := zA (Kd.dw (Kd.GY acB (g := gW) (o := .cells #[.int .i64 cB, .int .i64 dx] 42 (0, 0)) (zK eD)) (aJ (zB HB))); replace eD := zA (dn eD hb); replace HB := zA (af (zB HB) hb); clear hb acB; refine hK.out _ _ ⟨(ai eD.out 0).trans rfl, (ai eD.out 1).trans rfl⟩ (fun hHeld => ?_); clear hK K; refine qp 26 ?_; refine wU 3 (fun K hK => ?_); refine Kd.jZ gm (w0 := w) w.heap.size (by rfl) (.const (.slice none 0 0)) (.tmp 23) 22 42 (.agg #[(.int .i64 0), (.int .i64 0)]) 16 rfl Tryd.underlying22 nA rfl (by decide) (by omega) (.slice none 0 0) ([] : List (aD)) Ls _ _ _ (fun k_ => some k_ ≠ (Sm : Value).ownBlock ∧ k_ ≠ gW) (fun _ => False) rfl rfl ?aO ?aR (fun _ _ h => h) (fun _ h => h.elim) ?aF ?aB ?aS ?aL ?_; (case aR => repeat (first | exact (Kd.bu acA.out HB.out) | (with_reducible refine Kd.dY ?_ _) | (with_reducible refine Kd.dZ ?_ _) | (with_reducible refine Kd.fB ?_))); (case aB => exact (zB HB)); (case aF => exact (fun k_ hk => ⟨Kd.fresh' (Kd.kP (zR yD)) k_ hk, Kd.ug (g := gW) (o := .cells #[.int .i64 cB, .int .i64 dx] 42 (0, 0)) (zK eD) k_ hk⟩)); (case aO => exact ((Kd.wJ _ _ _ _ (fun k_ => some k_ ≠ (Sm : Value).ownBlock ∧ k_ ≠ gW)))); (case aS => exact (aJ (zB HB))); (case aL => have := ahH.out; omega); intro U3 w41 ho hb hg hat; rw [← ahI.out] at ho; have Eo := zA (ho); replace eD := zA (bZ (g := gW) (o := .cells #[.int .i64 cB, .int .i64 dx] 42 (0, 0)) (zK eD) hg (by simp [Value.ownBlock])); replace yD := zA (Kd.wQ (Kd.IL (zR yD)) hg hat); replace HB := zA (hb); clear ho hb hg hat; refine hK.out _ _ ⟨(ai eD.out 0).trans rfl, (ai eD.out 1).trans rfl⟩ (fun hHeld => ?_); clear hK K; refine qp 24 ?_; exact Jm (vU (U3, Sm) _ ⟨hHeld, (zR Eo), (by refine jF ?_; exact Kd.aQ yD.out (fun _ hk => ⟨hk.2, hk.1.2⟩)), (zK eD), (zB HB)⟩)
               rintro ⟨U3, Sm⟩ Ul ⟨EW, Df, Dg, Dh, Di⟩; have Eo : ag (Kd.R gm 42 Ul w.heap.size (fun k_ => some k_ ≠ (Sm : Value).ownBlock ∧ k_ ≠ gW) U3 ED) := ⟨Df⟩; have yD : ag (Kd.R gm 42 Ul w.heap.size (fun k_ => some k_ ≠ (U3 : Value).ownBlock ∧ k_ ≠ gW) Sm Cz) := ⟨Dg⟩; replace eD : ag (Ul.heap[gW]? = some (.cells #[.int .i64 cB, .int .i64 dx] 42 (0, 0))) := ⟨Dh⟩; replace HB : ag (Below w.heap.size w Ul) := ⟨Di⟩; clear Df Dg Dh Di; have hHeld : Ul.cell? ⟨gW, 0, none⟩ = some (.int .i64 cB) ∧ Ul.cell? ⟨gW, 1, none⟩ = some (.int .i64 dx) := EW; obtain ⟨OX, Mq, ⟨⟩⟩ := Ce (Kd.bD yD.out); refine ZC ?_; refine wU 6 (fun K hK => ?_); refine Kd.jZ gm (w0 := w) w.heap.size (by rfl) (.tmp 24) (.tmp 26) 22 42 (.agg #[(.int .i64 0), (.int .i64 0)]) 16 rfl Tryd.underlying22 nA rfl (by decide) (by omega) U3 ED Cz _ _ _ (fun k_ => some k_ ≠ (.slice OX Cz.length Mq : Value).ownBlock ∧ k_ ≠ gW) (fun _ => False) rfl rfl ?aO ?aR (fun _ _ h => h) (fun _ h => h.elim) ?aF ?aB ?aS ?aL ?_; (case aR => repeat (first | exact (Kd.aU yD.out).2.2 | (with_reducible refine Kd.dY ?_ _) | (with_reducible refine Kd.dZ ?_ _) | (with_reducible refine Kd.fB ?_))); (case aB => exact (zB HB)); (case aF => exact (fun k_ hk => ⟨Kd.fresh' (Kd.kP (zR yD)) k_ hk, Kd.ug (g := gW) (o := .cells #[.int .i64 cB, .int .i64 dx] 42 (0, 0)) (zK eD) k_ hk⟩)); (case aO => exact (zR Eo)); (case aS => exact (aJ (zB HB))); (case aL => have := ap4.out; omega); intro avA w43 ho hb hg hat; rw [← ap5.out] at ho; have acC := zA (ho); replace eD := zA (bZ (g := gW) (o := .cells #[.int .i64 cB, .int .i64 dx] 42 (0, 0)) (zK eD) hg (Kd.Bh Eo.out (fun _ hk => hk.2))); replace yD := zA (Kd.wQ (ok := (fun k_ => k_ ≠ gW)) (by refine jF ?_; exact Kd.aQ yD.out (fun _ hk => ⟨hk.2, hk.1⟩)) hg hat); replace HB := zA (hb); clear Eo; clear ho hb hg hat; refine hK.out _ _ ⟨(ai eD.out 0).trans rfl, (ai eD.out 1).trans rfl⟩ (fun hHeld => ?_); clear hK K; refine qp 27 ?_; refine zp 7 ?_; refine lK (iZ qd.out (by kernel_rfl)) ?_; have q45 : (bL : Int) ≤ ((l0.length : Int) : Int) := zo; obtain ⟨aCV, ahL, _, ahM, _⟩ := info_parts nA; have Pf : l0.length ≤ c0 := EK.out; have ap9 : Kd.C gm _ A0 l0.length l0 := uh.out; have avC : (0 : Int) ≤ (bL : Int) := zo; have ak3 := Qh (P := Tryd.prog) 22 42 .i64 Tryd.underlying22 ahL 2 ahM A0 l0.length c0 bL avC q45; have acD := Kd.ZR (m := (bL : Int).toNat) (c := c0) ap9 (by omega) Pf; obtain ⟨A45, afc⟩ : ∃ A1, A1 = (if c0 = (bL : Int).toNat then A0 else (A0 : Option Addr).map (·.add ((bL : Int).toNat * 2))) := ⟨_, rfl⟩; obtain ⟨Qa, ak4⟩ : ∃ c1, c1 = c0 - (bL : Int).toNat := ⟨_, rfl⟩; have afd : wH.length = l0.length - (bL : Int).toNat := (by rw [ahJ.out, List.length_drop] <;> omega); rw [show (l0).drop (bL : Int).toNat = wH from ahJ.out.symm] at acD; replace acD : Kd.C gm _ A45 wH.length wH := (by rw [afc]; exact acD); rw [← afd, ← afc, ← ak4] at ak3; have aqa := zA acD; have az1 := zA (show wH.length ≤ Qa from by rw [afd, ak4]; exact Nat.sub_le_sub_right Pf _); clear acD ap9 Pf ahL ahM ak4; have aCW := zA afd; have aCX := zA afc; clear afd afc; replace q45 := eq_true q45; try go_wp2_with (first | ((with_reducible refine fZ (b := .append) (xs := #[.tmp 28, .tmp 31]) rfl ?_); at_builtin; refine Kd.zz gm (w0 := w) w.heap.size rfl (.tmp 28) (.tmp 31) 22 42 (.agg #[(.int .i64 0), (.int .i64 0)]) 16 rfl Tryd.underlying22 nA rfl (by decide) (by omega) avA BH wH _ _ _ (fun k_ => some k_ ≠ (.slice OX Cz.length Mq : Value).ownBlock ∧ k_ ≠ gW) (fun _ => False) rfl rfl ?aO ?aR (fun _ _ h => h) (fun _ h => h.elim) ?aF ?aB ?aS ?aL ?_; (case aR => repeat (first | exact (Kd.bu aqa.out HB.out) | (with_reducible refine Kd.dY ?_ _) | (with_reducible refine Kd.dZ ?_ _) | (with_reducible refine Kd.fB ?_))); (case aB => exact (zB HB)); (case aF => exact (fun k_ hk => ⟨Kd.fresh' (Kd.kP (zR yD)) k_ hk, Kd.ug (g := gW) (o := .cells #[.int .i64 cB, .int .i64 dx] 42 (0, 0)) (zK eD) k_ hk⟩)); (case aO => exact (zR acC)); (case aS => exact (aJ (zB HB))); (case aL => have := aaM.out; omega); intro aCY w46 ho hb hg hat; rw [← ap6.out] at ho; have aqb := zA (ho); replace eD := zA (bZ (g := gW) (o := .cells #[.int .i64 cB, .int .i64 dx] 42 (0, 0)) (zK eD) hg (Kd.Bh acC.out (fun _ hk => hk.2))); replace yD := zA (Kd.wQ (ok := (fun k_ => k_ ≠ gW)) (zR yD) hg hat); replace HB := zA (hb); clear acC; clear ho hb hg hat))
               go_ret; exact ⟨_, ze, by refine jF ?_; exact Kd.aQ aqb.out (fun _ hk => trivial), zB HB⟩
             · rw [if_neg Fa] at H; exact absurd H (by simp)
           · rw [if_neg c32] at H; exact absurd H (by simp)
         · rw [if_neg c31] at H; exact absurd H (by simp)
       · rw [if_neg Cf] at H; exact absurd H (by simp)
     · rw [if_neg RQ] at H; exact absurd H (by simp)
end Go.Proofs.YtjmdlmogdbhdhaaDoor.P
namespace Go.Proofs.YtjmdlmogdbhdhaaDoor.P
open Go.RowKit Go.Proofs.YtjmdlmogdbhdhaaDoorW.PrintWords Go.Proofs.YtjmdlmogdbhdhaaDoorW.PrintLast Go.Proofs.YtjmdlmogdbhdhaaDoorW.PrintMore
attribute [local go_sem] iI iJ jP jQ gH gI iK iL
set_option linter.unusedVariables false
set_option linter.unusedSimpArgs false
attribute [local go_sem high] VU
set_option maxHeartbeats 8000000
set_option maxRecDepth 100000
def bE.l0 : Nat → Int → Int → List (aD) → Int → Int → Int → List (aD) → Option (Int × (List (aD)))
 | 0, _, _, _, _, _, _, _ => none
 | k + 1, x6, Xu, BI, Pg, Ph, Pj, JQ => if x6 < (BI.length : Int) then (if 0 ≤ x6 then (if (!(((aa BI x6).f0) == Pg) || (!(((aa BI x6).f1) == Ph))) = true then (if JQ.length < 8796093022208 then (bE.l0 k (wrap64 (x6 + 1)) Xu BI Pg Ph Pj (JQ ++ [(⟨(aa BI x6).f0, (aa BI x6).f1⟩ : aD)])) else (none)) else (bE.l0 k (wrap64 (x6 + 1)) Xu BI Pg Ph Pj JQ)) else (none)) else (some (Pj, JQ))
def bE.f (k : Nat) (au : Int) (ah : List (aD)) (cB : Int) (dx : Int) : Option (Int × (List (aD))) := (bX.f k au ah cB dx).bind fun acE => (if acE = true then (bE.l0 k 0 au ah cB dx au ([] : List (aD))) else ((aK.f k ah cB dx).bind fun Sn => (some (au, Sn))))
def bE.T9 : Bool × List (List Nat × List Nat) := (true, [([], []), ([0], [0]), ([], []), ([2], [2]), ([], []), ([3, 4], [3, 4]), ([5], [5]), ([6], [6]), ([1, 7], [1, 7]), ([0, 1, 2, 3, 4, 5, 6, 7, 8], []), ([9, 8, 8, 0, 1, 2, 3, 4, 5, 6, 7, 8], [8, 9])])
def bE.B9 : List Nat := [0, 1, 0, 4, 0, 28, 60, 124, 255, 511, 1023]
theorem bE.avD : oO .any (opsOf Tryd.f45 9) = bE.T9 := by kernel_rfl
theorem bE.aqc : lD bE.T9.2 bE.B9 = true := by kernel_rfl
theorem bE.calls (k : Nat) (au : Int) (aZ : Option Addr) (aW : Nat) (ah : List (aD)) (cB : Int) (dx : Int) (r1 : Int) (r2 : List (aD)) (w : World) (eY : Kd.C gm w aZ ah.length ah) (eZ : ah.length ≤ aW) (h : bE.f k au ah cB dx = some (r1, r2)) :
 Calls Tryd.prog 45 #[.agg #[.int .i64 au, .slice aZ ah.length aW], .agg #[.int .i64 cB, .int .i64 dx]] w fun e w' => ∃ C8 : Value, e = .returned (.agg #[.int .i64 r1, C8]) ∧ Kd.R gm 42 w' w.heap.size (fun _ => True) C8 r2 ∧ Below w.heap.size w w' := by
 have uk := Tryd.underlying24; have wV := Tryd.underlying42; have cz := zA eY; have dX := zA eZ; clear eY eZ; have HB := zA (Below.refl w.heap.size w); have H : ((bX.f k au ah cB dx).bind fun acE => (if acE = true then (bE.l0 k 0 au ah cB dx au ([] : List (aD))) else ((aK.f k ah cB dx).bind fun Sn => (some (au, Sn))))) = some (r1, r2) := h; clear h; replace H := zE H; obtain ⟨acE, A3, H⟩ := H; (try dsimp only at H); by_cases c4 : acE = true
 · subst c4; rw [if_pos rfl] at H; have H' := zA H; clear H; go_enter Tryd.func45, Tryd.ntmps45; go_wp2_with (first | ((with_reducible refine aH (N := 2) rfl ?_); refine zX (N := 2) (cs := #[.int .i64 au, .slice aZ ah.length aW]) (t := 24) ?_; intro Dp hg w5 aG hb; have gX := zA (aG); have aqd := zA (zW hg HB); have aqe := zA (zW hg HB); replace HB := zA (af (zB HB) hb); clear hb aG hg) | ((with_reducible refine aH (N := 3) rfl ?_); refine zX (N := 3) (cs := #[.int .i64 cB, .int .i64 dx]) (t := 42) ?_; intro AX hg w6 aG hb; have ko := zA (aG); have aqf := zA (zW hg HB); have aqg := zA (zW hg HB); have xN := zA (lZ hg gX); have xO := zA (l5 hg gX); replace gX := zA (dn gX hb); replace HB := zA (af (zB HB) hb); clear hb aG hg) | ((with_reducible refine aH (N := 4) rfl ?_); refine zX (N := 4) (cs := #[.int .i64 0, .slice none 0 0]) (t := 24) ?_; intro Dq hg w7 aG hb; have mF := zA (aG); have aqh := zA (zW hg HB); have aqi := zA (zW hg HB); have xP := zA (lZ hg gX); have xQ := zA (l5 hg gX); have DN := zA (lZ hg ko); have DR := zA (l5 hg ko); replace gX := zA (dn gX hb); replace ko := zA (dn ko hb); replace HB := zA (af (zB HB) hb); clear hb aG hg; have anl := xN.out; have anm := xO.out; have ai7 := xP.out; have ai8 := xQ.out; obtain ⟨_, _, _, _⟩ := iG gX) | ((with_reducible refine aH (N := 5) rfl ?_); refine zX (N := 5) (cs := #[.int .i64 0, .slice none 0 0]) (t := 24) ?_; intro Gb hg QE aG hb; have mG := zA (aG); have aqj := zA (zW hg HB); have aqk := zA (zW hg HB); have oV := zA (lZ hg gX); have uZ := zA (l5 hg gX); have qD := zA (lZ hg ko); have AY := zA (l5 hg ko); have pY := zA (lZ hg mF); have AZ := zA (l5 hg mF); replace gX := zA (dn gX hb); replace ko := zA (dn ko hb); replace mF := zA (dn mF hb); replace HB := zA (af (zB HB) hb); clear hb aG hg; have QL := uZ.out; have QM := oV.out; have V5 := AY.out; have V6 := qD.out; have Kq := AZ.out; have Kr := pY.out; obtain ⟨_, _, _, _⟩ := iG mG; obtain ⟨_, _, _, _⟩ := iG gX; have Xn := DN.out; have Xo := DR.out; obtain ⟨_, _, _, _⟩ := iG ko) | ((with_reducible refine ay (f := 62) rfl ?_); refine zG (some 15) rfl Tryd.func62 #[.agg #[.int .i64 au, .slice aZ ah.length aW], .int .i64 cB, .int .i64 dx] ?_; (with_reducible refine (bX.calls k au _ _ ah cB dx true _ ?aI ?aN A3.out).mono ?_); (case aI => exact Kd.bu cz.out (zB HB)); (case aN => exact dX.out); rintro e w19 ⟨rfl, hb⟩; refine ⟨_, rfl, ?_⟩; replace gX := zA (fo (g := Dp) (o := .cells #[.int .i64 au, .slice aZ ah.length aW] 24 (0, 0)) (by refine iA oV.out ?_; refine iA oV.out ?_; refine zk ?_; exact gX.out) hb); replace ko := zA (fo (g := AX) (o := .cells #[.int .i64 cB, .int .i64 dx] 42 (0, 0)) (by refine iA qD.out ?_; refine iA qD.out ?_; refine zk ?_; exact ko.out) hb); replace mF := zA (fo (g := Dq) (o := .cells #[.int .i64 0, .slice none 0 0] 24 (0, 0)) (by refine iA pY.out ?_; refine iA pY.out ?_; refine zk ?_; exact mF.out) hb); replace mG := zA (fo (g := Gb) (o := .cells #[.int .i64 au, .slice none 0 0] 24 (0, 0)) (by refine zk ?_; refine aV (cs := #[.int .i64 au, .slice none 0 0]) ?_ 1 _ rfl; refine zk ?_; refine aV (cs := #[.int .i64 0, .slice none 0 0]) ?_ 0 _ rfl; refine zk ?_; exact mG.out) hb); replace HB := zA (af (zB HB) hb))); go_loopg [6] k (fun kq v6 w' => ∃ (kY : Int) (rF : List (aD)) (zb : Value), v6 = .int .i64 kY ∧ ag (bE.l0 kq kY au ah cB dx au rF = some (r1, r2)) ∧ ag (kq ≤ k) ∧ ag (Kd.R gm 42 w' w.heap.size (fun k_ => k_ ≠ AX) zb rF) ∧ ag (w'.heap[Dp]? = some (.cells #[.int .i64 au, (.slice aZ ah.length aW)] 24 (0, 0))) ∧ ag (w'.heap[AX]? = some (.cells #[.int .i64 cB, .int .i64 dx] 42 (0, 0))) ∧ ag (w'.heap[Dq]? = some (.cells #[.int .i64 0, (.slice none 0 0)] 24 (0, 0))) ∧ ag (w'.heap[Gb]? = some (.cells #[.int .i64 au, zb] 24 (0, 0))) ∧ ag (Below w.heap.size w w'))
   case atStart => exact ⟨(0), (([] : List (aD))), (.slice none 0 0), zv, H', ⟨Nat.le_refl _⟩, ⟨Ab⟩, ⟨zK gX⟩, ⟨zK ko⟩, ⟨zK mF⟩, ⟨zK mG⟩, ⟨zB HB⟩⟩
   case round =>
    clear H'
    obtain ⟨kY, rF, zb, rfl, HA, iU, kV, gX, ko, mF, mG, HB⟩ := hrel; cases gk with
    | zero => exact absurd HA.out (by simp [bE.l0])
    | succ k1 =>
     have H := HA.out; clear HA; simp only [bE.l0] at H; by_cases c20 : kY < (ah.length : Int)
     · rw [if_pos c20] at H; have Fx := decide_eq_true c20; clear c20; by_cases c21 : 0 ≤ kY
       · rw [if_pos c21] at H; have aql := decide_eq_true c21; clear c21; by_cases DZ : (!(((aa ah kY).f0) == cB) || (!(((aa ah kY).f1) == dx))) = true
         · rw [if_pos DZ] at H; have Lh : (!(((aa ah kY).f0) == cB) || (!(((aa ah kY).f1) == dx))) = true := DZ; clear DZ; by_cases c23 : rF.length < 8796093022208
           · rw [if_pos c23] at H; have aqm := zA c23; clear c23; obtain ⟨afe, Sq⟩ : ∃ y_ : List (aD), y_ = (rF ++ [(⟨(aa ah kY).f0, (aa ah kY).f1⟩ : aD)]) := ⟨_, rfl⟩; replace H : (bE.l0 k1 (wrap64 (kY + 1)) au ah cB dx au afe) = some (r1, r2) := by first | (rw [Sq]; with_reducible exact H) | (have iW := (Option.bind_some _ _).symm.trans H; rw [Sq]; with_reducible exact iW) | (have iW := (Option.bind_some _ _).symm.trans H; with_reducible exact iW) | with_reducible exact H | (rw [Sq]; exact H) | exact H
             have aqn := zA Sq; clear Sq; have H' := zA H; clear H; have acF := xN.out; have acG := xO.out; have agp := xP.out; have agq := xQ.out; have Wl := oV.out; have Wm := uZ.out; obtain ⟨_, _, _, _⟩ := iG gX; try go_wp2
             replace kV := zA (Kd.nL kV.out); replace gX := zA (bO gX.out); replace ko := zA (bO ko.out); replace mF := zA (bO mF.out); replace mG := zA (bO mG.out); replace HB := zA (bn HB.out); have U4 : 0 ≤ (kY : Int) := zo; have U5 : kY < (ah.length : Int) := zo; obtain ⟨yE, ak5, xx, xy⟩ := eG cz.out kY U4 U5; have Pk := xy; have Pm := xx; cases ak5; replace xx := (zx HB xx :); replace xy := (zx HB xy :); replace U4 := eq_true U4; replace U5 := eq_true U5; refine yc (n := 7) (S := fun w' => w'.cell? ⟨Dp, 0, none⟩ = some (.int .i64 au) ∧ w'.cell? ⟨Dp, 1, none⟩ = some (.slice (some yE) ah.length aW) ∧ w'.cell? ⟨AX, 0, none⟩ = some (.int .i64 cB) ∧ w'.cell? ⟨AX, 1, none⟩ = some (.int .i64 dx) ∧ w'.cell? (yE.add ((kY).toNat * 2)) = some (.int .i64 ((aa ah kY).f0)) ∧ w'.cell? ⟨(yE.add ((kY).toNat * 2)).block, (yE.add ((kY).toNat * 2)).off + 1, none⟩ = some (.int .i64 ((aa ah kY).f1))) (ds := []) #[false, false, false, false, false, false, false] (by kernel_rfl) rfl rfl ⟨(ai gX.out 0).trans rfl, (ai gX.out 1).trans rfl, (ai ko.out 0).trans rfl, (ai ko.out 1).trans rfl, ((zx HB Pm :)), ((zx HB Pk :))⟩ (fun hHeld => ?_); generalize wr.drew = w28 at kV gX ko mF mG HB xx xy hHeld ⊢; refine Mf 0 ?_; refine Mf 2 ?_; refine YC 1 ?_; refine Mf 3 ?_; refine YC 4 ?_; refine YC 5 ?_; refine Mf 6 ?_; refine lK (by kernel_rfl) ?_; try go_wp2
             replace kV := zA (Kd.nL kV.out); replace gX := zA (bO gX.out); replace ko := zA (bO ko.out); replace mF := zA (bO mF.out); replace mG := zA (bO mG.out); replace HB := zA (bn HB.out); have ak6 : 0 ≤ (kY : Int) := zo; have ak7 : kY < (ah.length : Int) := zo; obtain ⟨aqo, avE, JR, JS⟩ := eG cz.out kY ak6 ak7; have JU := JS; have JV := JR; obtain rfl : yE = aqo := (by injection avE); replace JR := (zx HB JR :); replace JS := (zx HB JS :); replace ak6 := eq_true ak6; replace ak7 := eq_true ak7; refine EJ (n := 11) (S := fun w' => w'.cell? ⟨Gb, 0, none⟩ = some (.int .i64 au) ∧ w'.cell? ⟨Gb, 1, none⟩ = some (zb) ∧ w'.cell? ⟨Dp, 0, none⟩ = some (.int .i64 au) ∧ w'.cell? ⟨Dp, 1, none⟩ = some (.slice (some yE) ah.length aW) ∧ w'.cell? (yE.add ((kY).toNat * 2)) = some (.int .i64 ((aa ah kY).f0)) ∧ w'.cell? ⟨(yE.add ((kY).toNat * 2)).block, (yE.add ((kY).toNat * 2)).off + 1, none⟩ = some (.int .i64 ((aa ah kY).f1))) (ds := [10]) bE.avD bE.aqc ⟨(ai mG.out 0).trans rfl, (ai mG.out 1).trans rfl, (ai gX.out 0).trans rfl, (ai gX.out 1).trans rfl, ((zx HB JV :)), ((zx HB JU :))⟩ (fun hHeld qd DY => ?_); generalize w28.drew = w29 at kV gX ko mF mG HB JR JS hHeld ⊢; refine zp 0 ?_; refine zp 2 ?_; refine zp 4 ?_; refine zt 1 ?_; refine zt 3 ?_; refine zp 5 ?_; refine zt 6 ?_; refine wU 7 (fun K hK => ?_); refine aiD (w1 := ?_) (v := ?_) (by rfl) rfl ?_ ?_; rotate_left 2
             · go_simp; constructor
               · rfl
               · rfl
             refine hK.out _ _ ⟨(ai (je mG.out _) 0).trans rfl, (ai (je mG.out _) 1).trans rfl, (ai (je gX.out _) 0).trans rfl, (ai (je gX.out _) 1).trans rfl, (World.cell?_alloc_lt _ _ _ (World.block_lt_of_cell? _ _ (((zx HB JV :))))).trans (((zx HB JV :))), (World.cell?_alloc_lt _ _ _ (World.block_lt_of_cell? _ _ (((zx HB JU :))))).trans (((zx HB JU :)))⟩ (fun hHeld => ?_); clear hK K; refine qp 44 ?_; refine wU 8 (fun K hK => ?_); refine Kd.Mc gm (w0 := w) w.heap.size (by rfl) (.tmp 38) (.tmp 44) 22 42 (.agg #[(.int .i64 0), (.int .i64 0)]) 16 rfl Tryd.underlying22 nA rfl (by decide) (by omega) zb rF (⟨(aa ah kY).f0, (aa ah kY).f1⟩ : aD) [.int .i64 ((aa ah kY).f0), .int .i64 ((aa ah kY).f1)] (fun k_ => k_ ≠ AX) (fun _ => False) rfl rfl ?aP (fun _ hk => hk.elim) ?aF ?aO ?aB ?aS ?aL ?_; (case aP => exact mR _ _ _ (⟨(aa ah kY).f0, (aa ah kY).f1⟩ : aD)); (case aB => exact (zB HB)); (case aF => exact (fun k_ hk => Kd.ug (g := AX) (o := .cells #[.int .i64 cB, .int .i64 dx] 42 (0, 0)) (zK ko) k_ hk)); (case aO => exact (zR kV)); (case aS => exact (aJ (zB HB))); (case aL => have := aqm.out; omega); intro aCZ w30 ho hb hg hat; rw [← aqn.out] at ho; have ahN := zA (ho); replace gX := zA (bZ (g := Dp) (o := .cells #[.int .i64 au, .slice (some yE) ah.length aW] 24 (0, 0)) (zK gX) hg (Kd.oK kV.out gX.out (by decide))); replace ko := zA (bZ (g := AX) (o := .cells #[.int .i64 cB, .int .i64 dx] 42 (0, 0)) (zK ko) hg (Kd.Bh kV.out (fun _ hk => hk))); replace mF := zA (bZ (g := Dq) (o := .cells #[.int .i64 0, .slice none 0 0] 24 (0, 0)) (zK mF) hg (Kd.oK kV.out mF.out (by decide))); replace mG := zA (bZ (g := Gb) (o := .cells #[.int .i64 au, zb] 24 (0, 0)) (zK mG) hg (Kd.oK kV.out mG.out (by decide))); replace HB := zA (hb); clear kV; clear ho hb hg hat; obtain ⟨aqp, aqr, ⟨⟩⟩ := Ce (Kd.bD ahN.out); refine hK.out _ _ ⟨(ai mG.out 0).trans rfl, (ai mG.out 1).trans rfl, (ai gX.out 0).trans rfl, (ai gX.out 1).trans rfl, ((zx HB JV :)), ((zx HB JU :))⟩ (fun hHeld => ?_); clear hK K; refine qp 45 ?_; refine zp 9 ?_; refine VL (i := 10) (N := none) #[true, true, true, true, true, true, true, true, true, true, true] rfl rfl (Od qd.out (by kernel_rfl)) (by decide) (fun K hK => ?_); have avF := zc mG 1; have aqs := bU mG.out 1; have aff := oV.out; have afg := qD.out; have asZ := pY.out; have afh := uZ.out; have afi := AY.out; have as0 := AZ.out; refine IU (w1 := ?_) (by rfl) rfl ?_ ?_; rotate_left; · go_simp; rfl
             refine hK.out _ _ ?_; clear hK K; refine lK (iZ qd.out (by kernel_rfl)) ?_; try go_wp2
             go_roundg k1
             case measure => have := iU.out; omega
             case rel => exact ⟨(wrap64 (kY + 1)), (afe), (.slice aqp afe.length aqr), zv, H', ⟨by have := iU.out; omega⟩, ⟨by refine jF ?_; exact Kd.aQ (Kd.aT (p := ⟨Gb, 1, none⟩) (Kd.bJ ahN.out mG.out (by decide)) (fun _ hk => hk.2) (.slice aqp afe.length aqr)) (fun _ hk => hk.1)⟩, ⟨by refine iA oV.out ?_; refine zk ?_; exact gX.out⟩, ⟨by refine iA qD.out ?_; refine zk ?_; exact ko.out⟩, ⟨by refine iA pY.out ?_; refine zk ?_; exact mF.out⟩, ⟨by refine zk ?_; refine aV (cs := #[.int .i64 au, zb]) ?_ 1 _ rfl; refine zk ?_; exact mG.out⟩, ⟨zB HB⟩⟩
           · rw [if_neg c23] at H; exact absurd H (by simp)
         · rw [if_neg DZ] at H; have Lh : (!(((aa ah kY).f0) == cB) || (!(((aa ah kY).f1) == dx))) = false := by simpa using DZ
           clear DZ; have H' := zA H; clear H; have apy := xN.out; have apz := xO.out; have az2 := xP.out; have az3 := xQ.out; have abv := oV.out; have abw := uZ.out; obtain ⟨_, _, _, _⟩ := iG gX; try go_wp2
           replace kV := zA (Kd.nL kV.out); replace gX := zA (bO gX.out); replace ko := zA (bO ko.out); replace mF := zA (bO mF.out); replace mG := zA (bO mG.out); replace HB := zA (bn HB.out); have U4 : 0 ≤ (kY : Int) := zo; have U5 : kY < (ah.length : Int) := zo; obtain ⟨yE, ak5, xx, xy⟩ := eG cz.out kY U4 U5; have Pk := xy; have Pm := xx; cases ak5; replace xx := (zx HB xx :); replace xy := (zx HB xy :); replace U4 := eq_true U4; replace U5 := eq_true U5; refine yc (n := 7) (S := fun w' => w'.cell? ⟨Dp, 0, none⟩ = some (.int .i64 au) ∧ w'.cell? ⟨Dp, 1, none⟩ = some (.slice (some yE) ah.length aW) ∧ w'.cell? ⟨AX, 0, none⟩ = some (.int .i64 cB) ∧ w'.cell? ⟨AX, 1, none⟩ = some (.int .i64 dx) ∧ w'.cell? (yE.add ((kY).toNat * 2)) = some (.int .i64 ((aa ah kY).f0)) ∧ w'.cell? ⟨(yE.add ((kY).toNat * 2)).block, (yE.add ((kY).toNat * 2)).off + 1, none⟩ = some (.int .i64 ((aa ah kY).f1))) (ds := []) #[false, false, false, false, false, false, false] (by kernel_rfl) rfl rfl ⟨(ai gX.out 0).trans rfl, (ai gX.out 1).trans rfl, (ai ko.out 0).trans rfl, (ai ko.out 1).trans rfl, ((zx HB Pm :)), ((zx HB Pk :))⟩ (fun hHeld => ?_); generalize wr.drew = w37 at kV gX ko mF mG HB xx xy hHeld ⊢; refine Mf 0 ?_; refine Mf 2 ?_; refine YC 1 ?_; refine Mf 3 ?_; refine YC 4 ?_; refine YC 5 ?_; refine Mf 6 ?_; refine lK (by kernel_rfl) ?_; try go_wp2
           go_roundg k1
           case measure => have := iU.out; omega
           case rel => exact ⟨(wrap64 (kY + 1)), (rF), (zb), zv, H', ⟨by have := iU.out; omega⟩, ⟨zR kV⟩, ⟨zK gX⟩, ⟨zK ko⟩, ⟨zK mF⟩, ⟨zK mG⟩, ⟨zB HB⟩⟩
       · rw [if_neg c21] at H; exact absurd H (by simp)
     · rw [if_neg c20] at H; have Fx := decide_eq_false c20; clear c20; simp only [Option.some.injEq, Prod.mk.injEq] at H; obtain ⟨rfl, rfl⟩ := H; have ao5 := xN.out; have ao6 := xO.out; have abx := xP.out; have aby := xQ.out; have abz := oV.out; have abA := uZ.out; obtain ⟨_, _, _, _⟩ := iG gX; have Rm := AY.out; have Rn := qD.out; have Wq := AZ.out; have Ws := pY.out; obtain ⟨_, _, _, _⟩ := iG mG; have af4 := DR.out; have af5 := DN.out; obtain ⟨_, _, _, _⟩ := iG mF; obtain ⟨aqt, aqu, avG⟩ := Kd.bD kV.out; subst avG; go_wp2; refine bodyPost_ret (results_cell_row rfl _ _ Dq 24 #[.int .i64 au, .slice aqt rF.length aqu] (0, 0) _ rfl (by refine zk ?_; refine aV (cs := #[.int .i64 au, .slice none 0 0]) ?_ 1 _ rfl; refine zk ?_; refine aV (cs := #[.int .i64 0, .slice none 0 0]) ?_ 0 _ rfl; refine zk ?_; exact mF.out) Tryd.underlying24 rfl (by kernel_rfl)) rfl ?_; exact ⟨_, ze, by refine jF ?_; exact Kd.aQ (Kd.aT (p := ⟨Dq, 1, none⟩) (Kd.aT (p := ⟨Dq, 0, none⟩) (Kd.bJ kV.out mF.out (by decide)) (fun _ hk => hk.2) (.int .i64 au)) (fun _ hk => hk.2) (.slice aqt rF.length aqu)) (fun _ hk => trivial), zB HB⟩
 · replace c4 := Bool.eq_false_iff.mpr c4; subst c4; rw [if_neg (show ¬ (false = true) by decide)] at H; replace H := zE H; obtain ⟨Sn, A48, H⟩ := H; (try dsimp only at H); simp only [Option.some.injEq, Prod.mk.injEq] at H; obtain ⟨rfl, rfl⟩ := H; go_enter Tryd.func45, Tryd.ntmps45; go_wp2_with (first | ((with_reducible refine aH (N := 2) rfl ?_); refine zX (N := 2) (cs := #[.int .i64 au, .slice aZ ah.length aW]) (t := 24) ?_; intro Dp hg w49 aG hb; have gX := zA (aG); have aqd := zA (zW hg HB); have aqe := zA (zW hg HB); replace HB := zA (af (zB HB) hb); clear hb aG hg) | ((with_reducible refine aH (N := 3) rfl ?_); refine zX (N := 3) (cs := #[.int .i64 cB, .int .i64 dx]) (t := 42) ?_; intro AX hg w50 aG hb; have ko := zA (aG); have aqf := zA (zW hg HB); have aqg := zA (zW hg HB); have xN := zA (lZ hg gX); have xO := zA (l5 hg gX); replace gX := zA (dn gX hb); replace HB := zA (af (zB HB) hb); clear hb aG hg) | ((with_reducible refine aH (N := 4) rfl ?_); refine zX (N := 4) (cs := #[.int .i64 0, .slice none 0 0]) (t := 24) ?_; intro Dq hg Um aG hb; have mF := zA (aG); have aqh := zA (zW hg HB); have aqi := zA (zW hg HB); have xP := zA (lZ hg gX); have xQ := zA (l5 hg gX); have DN := zA (lZ hg ko); have DR := zA (l5 hg ko); replace gX := zA (dn gX hb); replace ko := zA (dn ko hb); replace HB := zA (af (zB HB) hb); clear hb aG hg; have aaP := xN.out; have aaQ := xO.out; have ahO := xP.out; have ahP := xQ.out; obtain ⟨_, _, _, _⟩ := iG gX) | ((with_reducible refine aH (N := 5) rfl ?_); refine zX (N := 5) (cs := #[.int .i64 0, .slice none 0 0]) (t := 24) ?_; intro Gb hg w55 aG hb; have mG := zA (aG); have aqj := zA (zW hg HB); have aqk := zA (zW hg HB); have oV := zA (lZ hg gX); have uZ := zA (l5 hg gX); have qD := zA (lZ hg ko); have AY := zA (l5 hg ko); have pY := zA (lZ hg mF); have AZ := zA (l5 hg mF); replace gX := zA (dn gX hb); replace ko := zA (dn ko hb); replace mF := zA (dn mF hb); replace HB := zA (af (zB HB) hb); clear hb aG hg; have aa7 := uZ.out; have aa8 := oV.out; have aqv := AY.out; have aqw := qD.out; have aoi := AZ.out; have aoj := pY.out; obtain ⟨_, _, _, _⟩ := iG mG; obtain ⟨_, _, _, _⟩ := iG gX; have ab3 := DN.out; have ab4 := DR.out; obtain ⟨_, _, _, _⟩ := iG ko) | ((with_reducible refine ay (f := 62) rfl ?_); refine zG (some 15) rfl Tryd.func62 #[.agg #[.int .i64 au, .slice aZ ah.length aW], .int .i64 cB, .int .i64 dx] ?_; (with_reducible refine (bX.calls k au _ _ ah cB dx false _ ?aI ?aN A3.out).mono ?_); (case aI => exact Kd.bu cz.out (zB HB)); (case aN => exact dX.out); rintro e w63 ⟨rfl, hb⟩; refine ⟨_, rfl, ?_⟩; replace gX := zA (fo (g := Dp) (o := .cells #[.int .i64 au, .slice aZ ah.length aW] 24 (0, 0)) (by refine iA oV.out ?_; refine iA oV.out ?_; refine zk ?_; exact gX.out) hb); replace ko := zA (fo (g := AX) (o := .cells #[.int .i64 cB, .int .i64 dx] 42 (0, 0)) (by refine iA qD.out ?_; refine iA qD.out ?_; refine zk ?_; exact ko.out) hb); replace mF := zA (fo (g := Dq) (o := .cells #[.int .i64 0, .slice none 0 0] 24 (0, 0)) (by refine iA pY.out ?_; refine iA pY.out ?_; refine zk ?_; exact mF.out) hb); replace mG := zA (fo (g := Gb) (o := .cells #[.int .i64 au, .slice none 0 0] 24 (0, 0)) (by refine zk ?_; refine aV (cs := #[.int .i64 au, .slice none 0 0]) ?_ 1 _ rfl; refine zk ?_; refine aV (cs := #[.int .i64 0, .slice none 0 0]) ?_ 0 _ rfl; refine zk ?_; exact mG.out) hb); replace HB := zA (af (zB HB) hb); obtain ⟨_, _, _, _⟩ := iG gX; obtain ⟨_, _, _, _⟩ := iG ko) | ((with_reducible refine ay (f := 61) rfl ?_); refine zG (some 20) rfl Tryd.func61 #[.slice aZ ah.length aW, .agg #[.int .i64 cB, .int .i64 dx]] ?_; (with_reducible refine (aK.calls k _ _ ah cB dx Sn _ ?aI ?aN A48.out).mono ?_); (case aI => exact jB cz HB); (case aN => exact dX.out); rintro e w66 ⟨aC0, rfl, ho0, hb⟩; refine ⟨_, rfl, ?_⟩; have ahQ := zA (Kd.dw (Kd.GY ho0 (g := AX) (o := .cells #[.int .i64 cB, .int .i64 dx] 42 (0, 0)) (zK ko)) (aJ (zB HB))); replace gX := zA (dn gX hb); replace ko := zA (dn ko hb); replace mF := zA (dn mF hb); replace mG := zA (dn mG hb); replace HB := zA (af (zB HB) hb); obtain ⟨ak8, ak9, avH⟩ := Kd.bD ahQ.out; subst avH; obtain ⟨_, _, _, _⟩ := iG mG; obtain ⟨_, _, _, _⟩ := iG mF)); refine bodyPost_ret (results_cell_row rfl _ _ Dq 24 #[.int .i64 au, .slice ak8 Sn.length ak9] (0, 0) _ rfl (by refine zk ?_; refine aV (cs := #[.int .i64 au, .slice none 0 0]) ?_ 1 _ rfl; refine zk ?_; refine aV (cs := #[.int .i64 0, .slice none 0 0]) ?_ 0 _ rfl; refine iA pY.out ?_; refine zk ?_; exact mF.out) Tryd.underlying24 rfl (by kernel_rfl)) rfl ?_; exact ⟨_, ze, by refine jF ?_; exact Kd.aQ (Kd.aT (p := ⟨Dq, 1, none⟩) (Kd.aT (p := ⟨Dq, 0, none⟩) (Kd.aT (p := ⟨Gb, 1, none⟩) (Kd.bJ (Kd.bJ ahQ.out mG.out (by decide)) mF.out (by decide)) (fun _ hk => hk.1.2) (.slice ak8 Sn.length ak9)) (fun _ hk => hk.2) (.int .i64 au)) (fun _ hk => hk.2) (.slice ak8 Sn.length ak9)) (fun _ hk => trivial), zB HB⟩
end Go.Proofs.YtjmdlmogdbhdhaaDoor.P
namespace Go.Proofs.YtjmdlmogdbhdhaaDoor.P
open Go.RowKit Go.Proofs.YtjmdlmogdbhdhaaDoorW.PrintWords Go.Proofs.YtjmdlmogdbhdhaaDoorW.PrintLast Go.Proofs.YtjmdlmogdbhdhaaDoorW.PrintMore
attribute [local go_sem] iI iJ jP jQ gH gI iK iL
set_option linter.unusedVariables false
set_option linter.unusedSimpArgs false
set_option maxHeartbeats 8000000
set_option maxRecDepth 100000
mutual
def aj.l0 : Nat → List (aD) → Int → Int → List (aD) → Option (Int × (List (aD)) × Int)
 | 0, _, _, _, _ => none
 | k + 1, x1, x7, vJ, zf => if x7 < (x1.length : Int) then (if 0 ≤ x7 then (if ((aa x1 x7).f0) < 0 then (some (0, ([] : List (aD)), 1)) else (if ((aa x1 x7).f0) ≥ vJ then (some (0, ([] : List (aD)), 1)) else (if ((aa x1 x7).f1) < 0 then (some (0, ([] : List (aD)), 1)) else (if ((aa x1 x7).f1) ≥ vJ then (some (0, ([] : List (aD)), 1)) else (aj.l0 k x1 (wrap64 (x7 + 1)) vJ zf))))) else (none)) else (aj.l1 k x1 0 vJ zf)
def aj.l1 : Nat → List (aD) → Int → Int → List (aD) → Option (Int × (List (aD)) × Int)
 | 0, _, _, _, _ => none
 | k + 1, x1, x8, vJ, zf => if x8 < (x1.length : Int) then (if 0 ≤ x8 then (if x8 ≤ (x1.length : Int) then ((dH.f k (x1.take (x8 : Int).toNat) ((aa x1 x8).f0) ((aa x1 x8).f1)).bind fun acH => (if acH = true then (some (0, ([] : List (aD)), 5)) else (aj.l1 k x1 (wrap64 (x8 + 1)) vJ zf))) else (none)) else (none)) else (aj.l2 k x1 0 vJ zf)
def aj.l2 : Nat → List (aD) → Int → Int → List (aD) → Option (Int × (List (aD)) × Int)
 | 0, _, _, _, _ => none
 | k + 1, x1, x9, vJ, zf => if x9 < (x1.length : Int) then (if 0 ≤ x9 then ((bE.f k vJ zf ((aa x1 x9).f0) ((aa x1 x9).f1)).bind fun ahR => (aj.l2 k x1 (wrap64 (x9 + 1)) ahR.1 ahR.2)) else (none)) else (some (vJ, zf, 0))
end
def aj.f (k : Nat) (au : Int) (ah : List (aD)) (l1 : List (aD)) : Option (Int × (List (aD)) × Int) := (aC.f k au ah).bind fun Ik => (if Ik = 0 then (aj.l0 k l1 0 au ah) else (some (0, ([] : List (aD)), Ik)))
def aj.T7 : Bool × List (List Nat × List Nat) := (true, [([], []), ([], []), ([0, 1], [0, 1]), ([2], [2]), ([3], [3]), ([4], [4]), ([5], [5]), ([6], [6]), ([6], [6]), ([7, 8, 6], [6, 7, 8]), ([9, 6], [6, 9]), ([10, 6], [6, 10]), ([6], [6]), ([12, 6], [6, 12]), ([11, 13, 6], [6, 11, 13]), ([6, 14], [6, 14]), ([15, 6], [15]), ([16], [16]), ([16], [16]), ([17, 18, 16], [16, 17, 18]), ([19, 16], [16, 19]), ([20, 16], [16, 20]), ([21, 16], [16, 21]), ([16, 22], [16, 22]), ([23, 16], [23]), ([24], [24]), ([24], [24]), ([25, 26, 24], [24, 25, 26]), ([27, 24], [24, 27]), ([28, 24], [24, 28]), ([24], [24]), ([30, 24], [24, 30]), ([29, 31, 24], [24, 29, 31]), ([24, 32], [24, 32])])
def aj.B7 : List Nat := [0, 0, 3, 7, 15, 31, 63, 127, 127, 511, 1023, 2047, 127, 4223, 16383, 32767, 65535, 131071, 131071, 524287, 1048575, 2097151, 4194303, 8388607, 16777215, 33554431, 33554431, 134217727, 268435455, 536870911, 33554431, 1107296255, 4294967295, 8589934591]
theorem aj.acI : oO .any (opsOf Tryd.f23 7) = aj.T7 := by kernel_rfl
theorem aj.Sr : lD aj.T7.2 aj.B7 = true := by kernel_rfl
def aj.T12 : Bool × List (List Nat × List Nat) := (true, [([], []), ([], []), ([0, 1], [0, 1]), ([], []), ([], []), ([3, 4], [3, 4]), ([5], [5]), ([2, 6], [2, 6])])
def aj.B12 : List Nat := [0, 0, 3, 0, 0, 24, 56, 127]
theorem aj.ahS : oO .any (opsOf Tryd.f23 12) = aj.T12 := by kernel_rfl
theorem aj.acJ : lD aj.T12.2 aj.B12 = true := by kernel_rfl
theorem aj.calls (k : Nat) (au : Int) (NF : Nat → Prop) (aZ : Option Addr) (aW : Nat) (ah : List (aD)) (A1 : Option Addr) (c1 : Nat) (l1 : List (aD)) (r1 : Int) (r2 : List (aD)) (r3 : Int) (w : World) (aqx : Kd.V gm 42 w w.heap.size (fun k_ => NF k_) (.slice aZ ah.length aW) ah) (hr1 : Kd.C gm w A1 l1.length l1) (hc1 : l1.length ≤ c1) (h : aj.f k au ah l1 = some (r1, r2, r3)) :
 Calls Tryd.prog 23 #[.agg #[.int .i64 au, .slice aZ ah.length aW], .slice A1 l1.length c1] w fun e w' => ∃ C8 : Value, e = .returned (.tuple #[.agg #[.int .i64 r1, C8], .int .i64 r3]) ∧ Kd.V gm 42 w' w.heap.size (fun k_ => (NF k_ ∨ w.heap.size ≤ k_)) C8 r2 ∧ Below w.heap.size w w' := by
 have uk := Tryd.underlying24; have wV := Tryd.underlying42; have wm := zA (show Kd.V gm 42 w w.heap.size (fun k_ => (NF k_ ∨ w.heap.size ≤ k_)) (.slice aZ ah.length aW) ah from Kd.Kk aqx (fun k_ hk => .inl hk)); have HR1 := zA hr1; have rX := zA hc1; clear hr1 hc1; have HB := zA (Below.refl w.heap.size w); have H : ((aC.f k au ah).bind fun Ik => (if Ik = 0 then (aj.l0 k l1 0 au ah) else (some (0, ([] : List (aD)), Ik)))) = some (r1, r2, r3) := h; clear h; replace H := zE H; obtain ⟨Ik, A3, H⟩ := H; (try dsimp only at H); by_cases c4 : Ik = 0
 · rw [if_pos c4] at H; have qU : (Ik == 0) = true := beq_iff_eq.mpr c4; have Om : (Ik != 0) = false := bne_eq_false_iff_eq.mpr c4; clear c4; have H' := zA H; clear H; go_enter Tryd.func23, Tryd.ntmps23; go_wp2_with (first | ((with_reducible refine aH (N := 2) rfl ?_); refine zX (N := 2) (cs := #[.int .i64 au, .slice aZ ah.length aW]) (t := 24) ?_; intro rT hg w5 aG hb; have gy := zA (aG); have aqy := zA (zW hg HB); have aqz := zA (zW hg HB); replace wm := zA (Kd.yM (Kd.EU (zV wm) rT (Nat.le_of_eq hg.symm)) hb); replace HB := zA (af (zB HB) hb); clear hb aG hg) | ((with_reducible refine aH (N := 4) rfl ?_); refine zX (N := 4) (cs := #[.int .i64 0, .slice none 0 0]) (t := 24) ?_; intro tN hg w6 aG hb; have iO := zA (aG); have aqA := zA (zW hg HB); have aqB := zA (zW hg HB); have p8 := zA (lZ hg gy); have oh := zA (l5 hg gy); replace wm := zA (Kd.yM (Kd.EU (zV wm) tN (Nat.le_of_eq hg.symm)) hb); replace gy := zA (dn gy hb); replace HB := zA (af (zB HB) hb); clear hb aG hg; have aee := p8.out; have aef := oh.out; obtain ⟨_, _, _, _⟩ := iG gy) | ((with_reducible refine ay (f := 44) rfl ?_); refine zG (some 11) rfl Tryd.func44 #[.agg #[.int .i64 au, .slice aZ ah.length aW]] ?_; (with_reducible refine (aC.calls k au _ _ ah Ik _ ?aI ?aN A3.out).mono ?_); (case aI => repeat (first | exact (Kd.vM wm.out).2.2 | (with_reducible refine Kd.dY ?_ _) | (with_reducible refine Kd.dZ ?_ _) | (with_reducible refine Kd.fB ?_))); (case aN => exact (Kd.vM wm.out).2.1); rintro e w9 ⟨rfl, hb⟩; refine ⟨_, rfl, ?_⟩; replace wm := zA (Kd.yM (zV wm) hb); replace gy := zA (dn gy hb); replace iO := zA (dn iO hb); replace HB := zA (af (zB HB) hb))); go_loopg [7] k (fun kq v7 w' => ∃ (bY : Int) (tO : Int), v7 = .int .i64 bY ∧ ag (aj.l0 kq l1 bY au ah = some (r1, r2, r3)) ∧ ag (kq ≤ k) ∧ ag (Kd.V gm 42 w' w.heap.size (fun k_ => (NF k_ ∨ w.heap.size ≤ k_) ∧ k_ ≠ rT ∧ k_ ≠ tN) (.slice aZ ah.length aW) ah) ∧ ag (w'.heap[rT]? = some (.cells #[.int .i64 au, (.slice aZ ah.length aW)] 24 (0, 0))) ∧ ag (w'.heap[tN]? = some (.cells #[.int .i64 tO, (.slice none 0 0)] 24 (0, 0))) ∧ ag (Below w.heap.size w w'))
   case atStart => exact ⟨(0), (0), zv, H', ⟨Nat.le_refl _⟩, ⟨by refine zkV ?_; exact Kd.Kk wm.out (fun _ hk => ⟨hk.1.1, ⟨hk.1.2, hk.2⟩⟩)⟩, ⟨zK gy⟩, ⟨zK iO⟩, ⟨zB HB⟩⟩
   case round =>
    clear H'
    obtain ⟨bY, tO, rfl, HA, iU, eu, gy, iO, HB⟩ := hrel; cases gk with
    | zero => exact absurd HA.out (by simp [aj.l0])
    | succ k1 =>
     have H := HA.out; clear HA; simp only [aj.l0] at H; by_cases c10 : bY < (l1.length : Int)
     · rw [if_pos c10] at H; have rR := decide_eq_true c10; clear c10; by_cases c11 : 0 ≤ bY
       · rw [if_pos c11] at H; have EY := decide_eq_true c11; clear c11; by_cases c12 : ((aa l1 bY).f0) < 0
         · rw [if_pos c12] at H; have Aj := decide_eq_true c12; clear c12; simp only [Option.some.injEq, Prod.mk.injEq] at H; obtain ⟨rfl, rfl, rfl⟩ := H; try go_wp2
           replace eu := zA (Kd.zD eu.out); replace gy := zA (bO gy.out); replace iO := zA (bO iO.out); replace HB := zA (bn HB.out); have BJ : 0 ≤ (bY : Int) := zo; have BK : bY < (l1.length : Int) := zo; obtain ⟨jl, Pn, lH, lI⟩ := eG HR1.out bY BJ BK; have xz := lI; have xA := lH; cases Pn; replace lH := (zx HB lH :); replace lI := (zx HB lI :); replace BJ := eq_true BJ; replace BK := eq_true BK; refine EJ (n := 34) (S := fun w' => w'.cell? (jl.add ((bY).toNat * 2)) = some (.int .i64 ((aa l1 bY).f0)) ∧ w'.cell? ⟨(jl.add ((bY).toNat * 2)).block, (jl.add ((bY).toNat * 2)).off + 1, none⟩ = some (.int .i64 ((aa l1 bY).f1))) (ds := []) aj.acI aj.Sr ⟨((zx HB xA :)), ((zx HB xz :))⟩ (fun hHeld qd DY => ?_); generalize wr.drew = Tw at eu gy iO HB lH lI hHeld ⊢; refine zp 0 ?_; refine zp 1 ?_; refine zp 2 ?_; refine zp 3 ?_; refine zt 4 ?_; refine zp 5 ?_; refine zp 6 ?_; refine zq 7 ?_; refine zq 8 ?_; refine zq 9 ?_; refine zq 10 ?_; refine zq 11 ?_; refine zq 12 ?_; refine zq 13 ?_; refine zq 14 ?_; refine zp 15 ?_; refine zp 16 ?_; refine zq 17 ?_; refine zq 18 ?_; refine zq 19 ?_; refine zq 20 ?_; refine zq 21 ?_; refine zq 22 ?_; refine zp 23 ?_; refine zp 24 ?_; refine zq 25 ?_; refine zq 26 ?_; refine zq 27 ?_; refine zq 28 ?_; refine zq 29 ?_; refine zq 30 ?_; refine zq 31 ?_; refine zq 32 ?_; refine zp 33 ?_; refine lK (iZ qd.out (by kernel_rfl)) ?_; have Kq := oh.out; have Kr := p8.out; obtain ⟨_, _, _, _⟩ := iG iO; try go_wp2
           refine bodyPost_ret (iw rfl _ _ tN 24 #[.int .i64 0, .slice none 0 0] (0, 0) _ rfl (by refine zk ?_; refine aV (cs := #[.int .i64 0, .slice none 0 0]) ?_ 1 _ rfl; refine zk ?_; refine aV (cs := #[.int .i64 tO, .slice none 0 0]) ?_ 0 _ rfl; refine zk ?_; exact iO.out) Tryd.underlying24 rfl (by kernel_rfl)) rfl ?_; exact ⟨_, ze, Kd.Kj _ _ _ _ _, zB HB⟩
         · rw [if_neg c12] at H; have Aj := decide_eq_false c12; clear c12; by_cases c16 : ((aa l1 bY).f0) ≥ au
           · rw [if_pos c16] at H; have aaJ := decide_eq_true c16; clear c16; simp only [Option.some.injEq, Prod.mk.injEq] at H; obtain ⟨rfl, rfl, rfl⟩ := H; try go_wp2
             replace eu := zA (Kd.zD eu.out); replace gy := zA (bO gy.out); replace iO := zA (bO iO.out); replace HB := zA (bn HB.out); have BJ : 0 ≤ (bY : Int) := zo; have BK : bY < (l1.length : Int) := zo; obtain ⟨jl, Pn, lH, lI⟩ := eG HR1.out bY BJ BK; have xz := lI; have xA := lH; cases Pn; replace lH := (zx HB lH :); replace lI := (zx HB lI :); replace BJ := eq_true BJ; replace BK := eq_true BK; have EE : 0 ≤ (bY : Int) := zo; have EF : bY < (l1.length : Int) := zo; obtain ⟨Lu, U6, nO, nP⟩ := eG HR1.out bY EE EF; have BL := nP; have BO := nO; obtain rfl : jl = Lu := (by injection U6); replace nO := (zx HB nO :); replace nP := (zx HB nP :); replace EE := eq_true EE; replace EF := eq_true EF; refine EJ (n := 34) (S := fun w' => w'.cell? ⟨rT, 0, none⟩ = some (.int .i64 au) ∧ w'.cell? ⟨rT, 1, none⟩ = some (.slice aZ ah.length aW) ∧ w'.cell? (jl.add ((bY).toNat * 2)) = some (.int .i64 ((aa l1 bY).f0)) ∧ w'.cell? ⟨(jl.add ((bY).toNat * 2)).block, (jl.add ((bY).toNat * 2)).off + 1, none⟩ = some (.int .i64 ((aa l1 bY).f1)) ∧ w'.cell? (jl.add ((bY).toNat * 2)) = some (.int .i64 ((aa l1 bY).f0)) ∧ w'.cell? ⟨(jl.add ((bY).toNat * 2)).block, (jl.add ((bY).toNat * 2)).off + 1, none⟩ = some (.int .i64 ((aa l1 bY).f1))) (ds := []) aj.acI aj.Sr ⟨(ai gy.out 0).trans rfl, (ai gy.out 1).trans rfl, ((zx HB xA :)), ((zx HB xz :)), ((zx HB BO :)), ((zx HB BL :))⟩ (fun hHeld qd DY => ?_); generalize wr.drew = w17 at eu gy iO HB lH lI nO nP hHeld ⊢; refine zp 0 ?_; refine zp 1 ?_; refine zp 2 ?_; refine zp 3 ?_; refine zt 4 ?_; refine zp 5 ?_; refine zp 6 ?_; refine zp 7 ?_; refine zp 8 ?_; refine zp 9 ?_; refine zp 10 ?_; refine zp 12 ?_; refine zt 11 ?_; refine zt 13 ?_; refine zp 14 ?_; refine zp 15 ?_; refine zp 16 ?_; refine zq 17 ?_; refine zq 18 ?_; refine zq 19 ?_; refine zq 20 ?_; refine zq 21 ?_; refine zq 22 ?_; refine zp 23 ?_; refine zp 24 ?_; refine zq 25 ?_; refine zq 26 ?_; refine zq 27 ?_; refine zq 28 ?_; refine zq 29 ?_; refine zq 30 ?_; refine zq 31 ?_; refine zq 32 ?_; refine zp 33 ?_; refine lK (iZ qd.out (by kernel_rfl)) ?_; have am2 := oh.out; have am3 := p8.out; obtain ⟨_, _, _, _⟩ := iG iO; try go_wp2
             refine bodyPost_ret (iw rfl _ _ tN 24 #[.int .i64 0, .slice none 0 0] (0, 0) _ rfl (by refine zk ?_; refine aV (cs := #[.int .i64 0, .slice none 0 0]) ?_ 1 _ rfl; refine zk ?_; refine aV (cs := #[.int .i64 tO, .slice none 0 0]) ?_ 0 _ rfl; refine zk ?_; exact iO.out) Tryd.underlying24 rfl (by kernel_rfl)) rfl ?_; exact ⟨_, ze, Kd.Kj _ _ _ _ _, zB HB⟩
           · rw [if_neg c16] at H; have aaJ := decide_eq_false c16; clear c16; by_cases c20 : ((aa l1 bY).f1) < 0
             · rw [if_pos c20] at H; have Fx := decide_eq_true c20; clear c20; simp only [Option.some.injEq, Prod.mk.injEq] at H; obtain ⟨rfl, rfl, rfl⟩ := H; try go_wp2
               replace eu := zA (Kd.zD eu.out); replace gy := zA (bO gy.out); replace iO := zA (bO iO.out); replace HB := zA (bn HB.out); have BJ : 0 ≤ (bY : Int) := zo; have BK : bY < (l1.length : Int) := zo; obtain ⟨jl, Pn, lH, lI⟩ := eG HR1.out bY BJ BK; have xz := lI; have xA := lH; cases Pn; replace lH := (zx HB lH :); replace lI := (zx HB lI :); replace BJ := eq_true BJ; replace BK := eq_true BK; have EE : 0 ≤ (bY : Int) := zo; have EF : bY < (l1.length : Int) := zo; obtain ⟨Lu, U6, nO, nP⟩ := eG HR1.out bY EE EF; have BL := nP; have BO := nO; obtain rfl : jl = Lu := (by injection U6); replace nO := (zx HB nO :); replace nP := (zx HB nP :); replace EE := eq_true EE; replace EF := eq_true EF; have Lv : 0 ≤ (bY : Int) := zo; have LA : bY < (l1.length : Int) := zo; obtain ⟨Su, acK, qP, qQ⟩ := eG HR1.out bY Lv LA; have Gc := qQ; have Gd := qP; obtain rfl : jl = Su := (by injection acK); replace qP := (zx HB qP :); replace qQ := (zx HB qQ :); replace Lv := eq_true Lv; replace LA := eq_true LA; refine EJ (n := 34) (S := fun w' => w'.cell? ⟨rT, 0, none⟩ = some (.int .i64 au) ∧ w'.cell? ⟨rT, 1, none⟩ = some (.slice aZ ah.length aW) ∧ w'.cell? (jl.add ((bY).toNat * 2)) = some (.int .i64 ((aa l1 bY).f0)) ∧ w'.cell? ⟨(jl.add ((bY).toNat * 2)).block, (jl.add ((bY).toNat * 2)).off + 1, none⟩ = some (.int .i64 ((aa l1 bY).f1)) ∧ w'.cell? (jl.add ((bY).toNat * 2)) = some (.int .i64 ((aa l1 bY).f0)) ∧ w'.cell? ⟨(jl.add ((bY).toNat * 2)).block, (jl.add ((bY).toNat * 2)).off + 1, none⟩ = some (.int .i64 ((aa l1 bY).f1)) ∧ w'.cell? (jl.add ((bY).toNat * 2)) = some (.int .i64 ((aa l1 bY).f0)) ∧ w'.cell? ⟨(jl.add ((bY).toNat * 2)).block, (jl.add ((bY).toNat * 2)).off + 1, none⟩ = some (.int .i64 ((aa l1 bY).f1))) (ds := []) aj.acI aj.Sr ⟨(ai gy.out 0).trans rfl, (ai gy.out 1).trans rfl, ((zx HB xA :)), ((zx HB xz :)), ((zx HB BO :)), ((zx HB BL :)), ((zx HB Gd :)), ((zx HB Gc :))⟩ (fun hHeld qd DY => ?_); generalize wr.drew = w21 at eu gy iO HB lH lI nO nP qP qQ hHeld ⊢; refine zp 0 ?_; refine zp 1 ?_; refine zp 2 ?_; refine zp 3 ?_; refine zt 4 ?_; refine zp 5 ?_; refine zp 6 ?_; refine zp 7 ?_; refine zp 8 ?_; refine zp 9 ?_; refine zp 10 ?_; refine zp 12 ?_; refine zt 11 ?_; refine zt 13 ?_; refine zp 14 ?_; refine zp 15 ?_; refine zp 16 ?_; refine zp 17 ?_; refine zp 18 ?_; refine zp 19 ?_; refine zp 20 ?_; refine zt 21 ?_; refine zp 22 ?_; refine zp 23 ?_; refine zp 24 ?_; refine zq 25 ?_; refine zq 26 ?_; refine zq 27 ?_; refine zq 28 ?_; refine zq 29 ?_; refine zq 30 ?_; refine zq 31 ?_; refine zq 32 ?_; refine zp 33 ?_; refine lK (iZ qd.out (by kernel_rfl)) ?_; have V8 := oh.out; have V9 := p8.out; obtain ⟨_, _, _, _⟩ := iG iO; try go_wp2
               refine bodyPost_ret (iw rfl _ _ tN 24 #[.int .i64 0, .slice none 0 0] (0, 0) _ rfl (by refine zk ?_; refine aV (cs := #[.int .i64 0, .slice none 0 0]) ?_ 1 _ rfl; refine zk ?_; refine aV (cs := #[.int .i64 tO, .slice none 0 0]) ?_ 0 _ rfl; refine zk ?_; exact iO.out) Tryd.underlying24 rfl (by kernel_rfl)) rfl ?_; exact ⟨_, ze, Kd.Kj _ _ _ _ _, zB HB⟩
             · rw [if_neg c20] at H; have Fx := decide_eq_false c20; clear c20; by_cases c24 : ((aa l1 bY).f1) ≥ au
               · rw [if_pos c24] at H; have abH := decide_eq_true c24; clear c24; simp only [Option.some.injEq, Prod.mk.injEq] at H; obtain ⟨rfl, rfl, rfl⟩ := H; try go_wp2
                 replace eu := zA (Kd.zD eu.out); replace gy := zA (bO gy.out); replace iO := zA (bO iO.out); replace HB := zA (bn HB.out); have BJ : 0 ≤ (bY : Int) := zo; have BK : bY < (l1.length : Int) := zo; obtain ⟨jl, Pn, lH, lI⟩ := eG HR1.out bY BJ BK; have xz := lI; have xA := lH; cases Pn; replace lH := (zx HB lH :); replace lI := (zx HB lI :); replace BJ := eq_true BJ; replace BK := eq_true BK; have EE : 0 ≤ (bY : Int) := zo; have EF : bY < (l1.length : Int) := zo; obtain ⟨Lu, U6, nO, nP⟩ := eG HR1.out bY EE EF; have BL := nP; have BO := nO; obtain rfl : jl = Lu := (by injection U6); replace nO := (zx HB nO :); replace nP := (zx HB nP :); replace EE := eq_true EE; replace EF := eq_true EF; have Lv : 0 ≤ (bY : Int) := zo; have LA : bY < (l1.length : Int) := zo; obtain ⟨Su, acK, qP, qQ⟩ := eG HR1.out bY Lv LA; have Gc := qQ; have Gd := qP; obtain rfl : jl = Su := (by injection acK); replace qP := (zx HB qP :); replace qQ := (zx HB qQ :); replace Lv := eq_true Lv; replace LA := eq_true LA; have U7 : 0 ≤ (bY : Int) := zo; have U8 : bY < (l1.length : Int) := zo; obtain ⟨acL, ala, xB, xC⟩ := eG HR1.out bY U7 U8; have Po := xC; have Pp := xB; obtain rfl : jl = acL := (by injection ala); replace xB := (zx HB xB :); replace xC := (zx HB xC :); replace U7 := eq_true U7; replace U8 := eq_true U8; refine EJ (n := 34) (S := fun w' => w'.cell? ⟨rT, 0, none⟩ = some (.int .i64 au) ∧ w'.cell? ⟨rT, 1, none⟩ = some (.slice aZ ah.length aW) ∧ w'.cell? (jl.add ((bY).toNat * 2)) = some (.int .i64 ((aa l1 bY).f0)) ∧ w'.cell? ⟨(jl.add ((bY).toNat * 2)).block, (jl.add ((bY).toNat * 2)).off + 1, none⟩ = some (.int .i64 ((aa l1 bY).f1)) ∧ w'.cell? (jl.add ((bY).toNat * 2)) = some (.int .i64 ((aa l1 bY).f0)) ∧ w'.cell? ⟨(jl.add ((bY).toNat * 2)).block, (jl.add ((bY).toNat * 2)).off + 1, none⟩ = some (.int .i64 ((aa l1 bY).f1)) ∧ w'.cell? (jl.add ((bY).toNat * 2)) = some (.int .i64 ((aa l1 bY).f0)) ∧ w'.cell? ⟨(jl.add ((bY).toNat * 2)).block, (jl.add ((bY).toNat * 2)).off + 1, none⟩ = some (.int .i64 ((aa l1 bY).f1)) ∧ w'.cell? (jl.add ((bY).toNat * 2)) = some (.int .i64 ((aa l1 bY).f0)) ∧ w'.cell? ⟨(jl.add ((bY).toNat * 2)).block, (jl.add ((bY).toNat * 2)).off + 1, none⟩ = some (.int .i64 ((aa l1 bY).f1))) (ds := []) aj.acI aj.Sr ⟨(ai gy.out 0).trans rfl, (ai gy.out 1).trans rfl, ((zx HB xA :)), ((zx HB xz :)), ((zx HB BO :)), ((zx HB BL :)), ((zx HB Gd :)), ((zx HB Gc :)), ((zx HB Pp :)), ((zx HB Po :))⟩ (fun hHeld qd DY => ?_); generalize wr.drew = w25 at eu gy iO HB lH lI nO nP qP qQ xB xC hHeld ⊢; refine zp 0 ?_; refine zp 1 ?_; refine zp 2 ?_; refine zp 3 ?_; refine zt 4 ?_; refine zp 5 ?_; refine zp 6 ?_; refine zp 7 ?_; refine zp 8 ?_; refine zp 9 ?_; refine zp 10 ?_; refine zp 12 ?_; refine zt 11 ?_; refine zt 13 ?_; refine zp 14 ?_; refine zp 15 ?_; refine zp 16 ?_; refine zp 17 ?_; refine zp 18 ?_; refine zp 19 ?_; refine zp 20 ?_; refine zt 21 ?_; refine zp 22 ?_; refine zp 23 ?_; refine zp 24 ?_; refine zp 25 ?_; refine zp 26 ?_; refine zp 27 ?_; refine zp 28 ?_; refine zp 30 ?_; refine zt 29 ?_; refine zt 31 ?_; refine zp 32 ?_; refine zp 33 ?_; refine lK (iZ qd.out (by kernel_rfl)) ?_; have Wl := oh.out; have Wm := p8.out; obtain ⟨_, _, _, _⟩ := iG iO; try go_wp2
                 refine bodyPost_ret (iw rfl _ _ tN 24 #[.int .i64 0, .slice none 0 0] (0, 0) _ rfl (by refine zk ?_; refine aV (cs := #[.int .i64 0, .slice none 0 0]) ?_ 1 _ rfl; refine zk ?_; refine aV (cs := #[.int .i64 tO, .slice none 0 0]) ?_ 0 _ rfl; refine zk ?_; exact iO.out) Tryd.underlying24 rfl (by kernel_rfl)) rfl ?_; exact ⟨_, ze, Kd.Kj _ _ _ _ _, zB HB⟩
               · rw [if_neg c24] at H; have abH := decide_eq_false c24; clear c24; have H' := zA H; clear H; try go_wp2
                 replace eu := zA (Kd.zD eu.out); replace gy := zA (bO gy.out); replace iO := zA (bO iO.out); replace HB := zA (bn HB.out); have BJ : 0 ≤ (bY : Int) := zo; have BK : bY < (l1.length : Int) := zo; obtain ⟨jl, Pn, lH, lI⟩ := eG HR1.out bY BJ BK; have xz := lI; have xA := lH; cases Pn; replace lH := (zx HB lH :); replace lI := (zx HB lI :); replace BJ := eq_true BJ; replace BK := eq_true BK; have EE : 0 ≤ (bY : Int) := zo; have EF : bY < (l1.length : Int) := zo; obtain ⟨Lu, U6, nO, nP⟩ := eG HR1.out bY EE EF; have BL := nP; have BO := nO; obtain rfl : jl = Lu := (by injection U6); replace nO := (zx HB nO :); replace nP := (zx HB nP :); replace EE := eq_true EE; replace EF := eq_true EF; have Lv : 0 ≤ (bY : Int) := zo; have LA : bY < (l1.length : Int) := zo; obtain ⟨Su, acK, qP, qQ⟩ := eG HR1.out bY Lv LA; have Gc := qQ; have Gd := qP; obtain rfl : jl = Su := (by injection acK); replace qP := (zx HB qP :); replace qQ := (zx HB qQ :); replace Lv := eq_true Lv; replace LA := eq_true LA; have U7 : 0 ≤ (bY : Int) := zo; have U8 : bY < (l1.length : Int) := zo; obtain ⟨acL, ala, xB, xC⟩ := eG HR1.out bY U7 U8; have Po := xC; have Pp := xB; obtain rfl : jl = acL := (by injection ala); replace xB := (zx HB xB :); replace xC := (zx HB xC :); replace U7 := eq_true U7; replace U8 := eq_true U8; refine EJ (n := 34) (S := fun w' => w'.cell? ⟨rT, 0, none⟩ = some (.int .i64 au) ∧ w'.cell? ⟨rT, 1, none⟩ = some (.slice aZ ah.length aW) ∧ w'.cell? (jl.add ((bY).toNat * 2)) = some (.int .i64 ((aa l1 bY).f0)) ∧ w'.cell? ⟨(jl.add ((bY).toNat * 2)).block, (jl.add ((bY).toNat * 2)).off + 1, none⟩ = some (.int .i64 ((aa l1 bY).f1)) ∧ w'.cell? (jl.add ((bY).toNat * 2)) = some (.int .i64 ((aa l1 bY).f0)) ∧ w'.cell? ⟨(jl.add ((bY).toNat * 2)).block, (jl.add ((bY).toNat * 2)).off + 1, none⟩ = some (.int .i64 ((aa l1 bY).f1)) ∧ w'.cell? (jl.add ((bY).toNat * 2)) = some (.int .i64 ((aa l1 bY).f0)) ∧ w'.cell? ⟨(jl.add ((bY).toNat * 2)).block, (jl.add ((bY).toNat * 2)).off + 1, none⟩ = some (.int .i64 ((aa l1 bY).f1)) ∧ w'.cell? (jl.add ((bY).toNat * 2)) = some (.int .i64 ((aa l1 bY).f0)) ∧ w'.cell? ⟨(jl.add ((bY).toNat * 2)).block, (jl.add ((bY).toNat * 2)).off + 1, none⟩ = some (.int .i64 ((aa l1 bY).f1))) (ds := []) aj.acI aj.Sr ⟨(ai gy.out 0).trans rfl, (ai gy.out 1).trans rfl, ((zx HB xA :)), ((zx HB xz :)), ((zx HB BO :)), ((zx HB BL :)), ((zx HB Gd :)), ((zx HB Gc :)), ((zx HB Pp :)), ((zx HB Po :))⟩ (fun hHeld qd DY => ?_); generalize wr.drew = w28 at eu gy iO HB lH lI nO nP qP qQ xB xC hHeld ⊢; refine zp 0 ?_; refine zp 1 ?_; refine zp 2 ?_; refine zp 3 ?_; refine zt 4 ?_; refine zp 5 ?_; refine zp 6 ?_; refine zp 7 ?_; refine zp 8 ?_; refine zp 9 ?_; refine zp 10 ?_; refine zp 12 ?_; refine zt 11 ?_; refine zt 13 ?_; refine zp 14 ?_; refine zp 15 ?_; refine zp 16 ?_; refine zp 17 ?_; refine zp 18 ?_; refine zp 19 ?_; refine zp 20 ?_; refine zt 21 ?_; refine zp 22 ?_; refine zp 23 ?_; refine zp 24 ?_; refine zp 25 ?_; refine zp 26 ?_; refine zp 27 ?_; refine zp 28 ?_; refine zp 30 ?_; refine zt 29 ?_; refine zt 31 ?_; refine zp 32 ?_; refine zp 33 ?_; refine lK (iZ qd.out (by kernel_rfl)) ?_; try go_wp2
                 go_roundg k1
                 case measure => have := iU.out; omega
                 case rel => exact ⟨(wrap64 (bY + 1)), (tO), zv, H', ⟨by have := iU.out; omega⟩, ⟨zV eu⟩, ⟨zK gy⟩, ⟨zK iO⟩, ⟨zB HB⟩⟩
       · rw [if_neg c11] at H; exact absurd H (by simp)
     · rw [if_neg c10] at H; have rR := decide_eq_false c10; clear c10; have H' := zA H; clear H; go_wp2; go_loopg [8] k1 (fun kq v8 w' => ∃ (kR : Int) (xR : Int), v8 = .int .i64 kR ∧ ag (aj.l1 kq l1 kR au ah = some (r1, r2, r3)) ∧ ag (kq ≤ k1) ∧ ag (Kd.V gm 42 w' w.heap.size (fun k_ => (NF k_ ∨ w.heap.size ≤ k_) ∧ k_ ≠ rT ∧ k_ ≠ tN) (.slice aZ ah.length aW) ah) ∧ ag (w'.heap[rT]? = some (.cells #[.int .i64 au, (.slice aZ ah.length aW)] 24 (0, 0))) ∧ ag (w'.heap[tN]? = some (.cells #[.int .i64 xR, (.slice none 0 0)] 24 (0, 0))) ∧ ag (Below w.heap.size w w'))
       case atStart => exact ⟨(0), (tO), zv, H', ⟨Nat.le_refl _⟩, ⟨zV eu⟩, ⟨zK gy⟩, ⟨zK iO⟩, ⟨zB HB⟩⟩
       case round =>
        clear H'
        obtain ⟨kR, xR, rfl, HA, mo, eu, gy, iO, HB⟩ := hrel; cases gk with
        | zero => exact absurd HA.out (by simp [aj.l1])
        | succ k2 =>
         have H := HA.out; clear HA; simp only [aj.l1] at H; by_cases RQ : kR < (l1.length : Int)
         · rw [if_pos RQ] at H; have ahE := decide_eq_true RQ; clear RQ; by_cases Cf : 0 ≤ kR
           · rw [if_pos Cf] at H; have IY := eq_true Cf; have ahF := decide_eq_true Cf; clear Cf; by_cases c31 : kR ≤ (l1.length : Int)
             · rw [if_pos c31] at H; have Nb := eq_true c31; have az5 := decide_eq_true c31; clear c31; obtain ⟨Pq, Sv⟩ : ∃ y_ : List (aD), y_ = (l1.take (kR : Int).toNat) := ⟨_, rfl⟩; replace H : ((dH.f k2 Pq ((aa l1 kR).f0) ((aa l1 kR).f1)).bind fun acH => (if acH = true then (some (0, ([] : List (aD)), 5)) else (aj.l1 k2 l1 (wrap64 (kR + 1)) au ah))) = some (r1, r2, r3) := by first | (rw [Sv]; with_reducible exact H) | (have iW := (Option.bind_some _ _).symm.trans H; rw [Sv]; with_reducible exact iW) | (have iW := (Option.bind_some _ _).symm.trans H; with_reducible exact iW) | with_reducible exact H | (rw [Sv]; exact H) | exact H
               have Xv := zA Sv; clear Sv; replace H := zE H; obtain ⟨acH, A32, H⟩ := H; (try dsimp only at H); by_cases Cj : acH = true
               · subst Cj; rw [if_pos rfl] at H; simp only [Option.some.injEq, Prod.mk.injEq] at H; obtain ⟨rfl, rfl, rfl⟩ := H; try go_wp2
                 replace eu := zA (Kd.zD eu.out); replace gy := zA (bO gy.out); replace iO := zA (bO iO.out); replace HB := zA (bn HB.out); have q35 : (kR : Int) ≤ ((l1.length : Int) : Int) := zo; obtain ⟨aC2, ahT, _, aqC, _⟩ := info_parts nA; have Xw : l1.length ≤ c1 := rX.out; have aqD : Kd.C gm _ A1 l1.length l1 := HR1.out; have alb := NY (P := Tryd.prog) 22 42 .i64 Tryd.underlying22 ahT A1 l1.length c1 kR zo q35 Xw; have alc := Kd.NZ (m := (kR : Int).toNat) aqD (by omega); have ald : Pq.length = (kR : Int).toNat := (by rw [Xv.out, List.length_take]; omega); rw [← Xv.out] at alc; rw [← ald] at alb; have Sw := zA alc; have acM := zA (show Pq.length ≤ c1 from by omega); clear alc aqD Xw ahT aqC; have aC3 := zA ald; clear ald; replace q35 := eq_true q35; have U9 : 0 ≤ (kR : Int) := zo; have Va : kR < (l1.length : Int) := zo; obtain ⟨Gf, ale, xD, xE⟩ := eG HR1.out kR U9 Va; have Gg := xE; have Gh := xD; cases ale; replace xD := (zx HB xD :); replace xE := (zx HB xE :); replace U9 := eq_true U9; replace Va := eq_true Va; refine EJ (n := 8) (S := fun w' => w'.cell? (Gf.add ((kR).toNat * 2)) = some (.int .i64 ((aa l1 kR).f0)) ∧ w'.cell? ⟨(Gf.add ((kR).toNat * 2)).block, (Gf.add ((kR).toNat * 2)).off + 1, none⟩ = some (.int .i64 ((aa l1 kR).f1))) (ds := []) aj.ahS aj.acJ ⟨((zx HB Gh :)), ((zx HB Gg :))⟩ (fun hHeld qd DY => ?_); generalize wr.drew = w34 at eu gy iO HB Sw xD xE hHeld ⊢; refine zp 0 ?_; refine zp 1 ?_; refine zp 2 ?_; refine zp 3 ?_; refine zp 4 ?_; refine zp 5 ?_; refine zt 6 ?_; refine wU 7 (fun K hK => ?_); refine lu Tryd.func20 (by kernel_rfl) rfl #[.slice (some Gf) Pq.length c1, .agg #[.int .i64 ((aa l1 kR).f0), .int .i64 ((aa l1 kR).f1)]] (by rfl) rfl rfl Cc ?_; with_reducible refine (dH.calls k2 _ _ Pq ((aa l1 kR).f0) ((aa l1 kR).f1) true _ ?aI ?aN A32.out).mono ?_
                 (case aI => exact jB Sw HB); (case aN => exact acM.out); rintro e w36 ⟨rfl, hb⟩; refine ⟨_, rfl, ?_⟩; replace eu := zA (Kd.yM (zV eu) hb); replace gy := zA (dn gy hb); replace iO := zA (dn iO hb); replace HB := zA (af (zB HB) hb); refine hK.out _ _ ⟨((zx HB Gh :)), ((zx HB Gg :))⟩ (fun hHeld => ?_); clear hK K; refine qp 70 ?_; refine lK (iZ qd.out (by kernel_rfl)) ?_; have aaN := oh.out; have aaO := p8.out; obtain ⟨_, _, _, _⟩ := iG iO; try go_wp2
                 refine bodyPost_ret (iw rfl _ _ tN 24 #[.int .i64 0, .slice none 0 0] (0, 0) _ rfl (by refine zk ?_; refine aV (cs := #[.int .i64 0, .slice none 0 0]) ?_ 1 _ rfl; refine zk ?_; refine aV (cs := #[.int .i64 xR, .slice none 0 0]) ?_ 0 _ rfl; refine zk ?_; exact iO.out) Tryd.underlying24 rfl (by kernel_rfl)) rfl ?_; exact ⟨_, ze, Kd.Kj _ _ _ _ _, zB HB⟩
               · replace Cj := Bool.eq_false_iff.mpr Cj; subst Cj; rw [if_neg (show ¬ (false = true) by decide)] at H; have H' := zA H; clear H; try go_wp2
                 replace eu := zA (Kd.zD eu.out); replace gy := zA (bO gy.out); replace iO := zA (bO iO.out); replace HB := zA (bn HB.out); have q40 : (kR : Int) ≤ ((l1.length : Int) : Int) := zo; obtain ⟨aC4, ahU, _, aqE, _⟩ := info_parts nA; have Xx : l1.length ≤ c1 := rX.out; have aqF : Kd.C gm _ A1 l1.length l1 := HR1.out; have alf := NY (P := Tryd.prog) 22 42 .i64 Tryd.underlying22 ahU A1 l1.length c1 kR zo q40 Xx; have alg := Kd.NZ (m := (kR : Int).toNat) aqF (by omega); have alh : Pq.length = (kR : Int).toNat := (by rw [Xv.out, List.length_take]; omega); rw [← Xv.out] at alg; rw [← alh] at alf; have Sw := zA alg; have acM := zA (show Pq.length ≤ c1 from by omega); clear alg aqF Xx ahU aqE; have aC5 := zA alh; clear alh; replace q40 := eq_true q40; have U9 : 0 ≤ (kR : Int) := zo; have Va : kR < (l1.length : Int) := zo; obtain ⟨Gf, ale, xD, xE⟩ := eG HR1.out kR U9 Va; have Gg := xE; have Gh := xD; cases ale; replace xD := (zx HB xD :); replace xE := (zx HB xE :); replace U9 := eq_true U9; replace Va := eq_true Va; refine EJ (n := 8) (S := fun w' => w'.cell? (Gf.add ((kR).toNat * 2)) = some (.int .i64 ((aa l1 kR).f0)) ∧ w'.cell? ⟨(Gf.add ((kR).toNat * 2)).block, (Gf.add ((kR).toNat * 2)).off + 1, none⟩ = some (.int .i64 ((aa l1 kR).f1))) (ds := []) aj.ahS aj.acJ ⟨((zx HB Gh :)), ((zx HB Gg :))⟩ (fun hHeld qd DY => ?_); generalize wr.drew = w39 at eu gy iO HB Sw xD xE hHeld ⊢; refine zp 0 ?_; refine zp 1 ?_; refine zp 2 ?_; refine zp 3 ?_; refine zp 4 ?_; refine zp 5 ?_; refine zt 6 ?_; refine wU 7 (fun K hK => ?_); refine lu Tryd.func20 (by kernel_rfl) rfl #[.slice (some Gf) Pq.length c1, .agg #[.int .i64 ((aa l1 kR).f0), .int .i64 ((aa l1 kR).f1)]] (by rfl) rfl rfl Cc ?_; with_reducible refine (dH.calls k2 _ _ Pq ((aa l1 kR).f0) ((aa l1 kR).f1) false _ ?aI ?aN A32.out).mono ?_
                 (case aI => exact jB Sw HB); (case aN => exact acM.out); rintro e w41 ⟨rfl, hb⟩; refine ⟨_, rfl, ?_⟩; replace eu := zA (Kd.yM (zV eu) hb); replace gy := zA (dn gy hb); replace iO := zA (dn iO hb); replace HB := zA (af (zB HB) hb); refine hK.out _ _ ⟨((zx HB Gh :)), ((zx HB Gg :))⟩ (fun hHeld => ?_); clear hK K; refine qp 70 ?_; refine lK (iZ qd.out (by kernel_rfl)) ?_; try go_wp2
                 go_roundg k2
                 case measure => have := iU.out; have := mo.out; omega
                 case rel => exact ⟨(wrap64 (kR + 1)), (xR), zv, H', ⟨by have := iU.out; have := mo.out; omega⟩, ⟨zV eu⟩, ⟨zK gy⟩, ⟨zK iO⟩, ⟨zB HB⟩⟩
             · rw [if_neg c31] at H; exact absurd H (by simp)
           · rw [if_neg Cf] at H; exact absurd H (by simp)
         · rw [if_neg RQ] at H; have ahE := decide_eq_false RQ; clear RQ; have H' := zA H; clear H; go_wp2; go_loopg [9] k2 (fun kq v9 w' => ∃ (CB : Int) (qE : Int) (qF : List (aD)) (Pt : Value), v9 = .int .i64 CB ∧ ag (aj.l2 kq l1 CB qE qF = some (r1, r2, r3)) ∧ ag (kq ≤ k2) ∧ ag (Kd.V gm 42 w' w.heap.size (fun k_ => (NF k_ ∨ w.heap.size ≤ k_) ∧ k_ ≠ rT ∧ k_ ≠ tN) Pt qF) ∧ ag (w'.heap[rT]? = some (.cells #[.int .i64 qE, Pt] 24 (0, 0))) ∧ ag (w'.heap[tN]? = some (.cells #[.int .i64 xR, (.slice none 0 0)] 24 (0, 0))) ∧ ag (Below w.heap.size w w'))
           case atStart => exact ⟨(0), (au), (ah), (.slice aZ ah.length aW), zv, H', ⟨Nat.le_refl _⟩, ⟨zV eu⟩, ⟨zK gy⟩, ⟨zK iO⟩, ⟨zB HB⟩⟩
           case round =>
            clear H'
            obtain ⟨CB, qE, qF, Pt, rfl, HA, wO, eu, gy, iO, HB⟩ := hrel; cases gk with
            | zero => exact absurd HA.out (by simp [aj.l2])
            | succ k3 =>
             have H := HA.out; clear HA; simp only [aj.l2] at H; by_cases c42 : CB < (l1.length : Int)
             · rw [if_pos c42] at H; have aqG := decide_eq_true c42; clear c42; by_cases c43 : 0 ≤ CB
               · rw [if_pos c43] at H; have aqH := decide_eq_true c43; clear c43; replace H := Option.bind_eq_some_iff.mp H; obtain ⟨⟨afj, afk⟩, aqI, H⟩ := H; (try dsimp only at H); have A44 := zA aqI; clear aqI; have H' := zA H; clear H; try go_wp2
                 replace eu := zA (Kd.zD eu.out); replace gy := zA (bO gy.out); replace iO := zA (bO iO.out); replace HB := zA (bn HB.out); have ali : 0 ≤ (CB : Int) := zo; have alj : CB < (l1.length : Int) := zo; obtain ⟨acO, avK, JW, JX⟩ := eG HR1.out CB ali alj; have Xy := JX; have Xz := JW; cases avK; replace JW := (zx HB JW :); replace JX := (zx HB JX :); replace ali := eq_true ali; replace alj := eq_true alj; obtain ⟨afl, afm, ⟨⟩⟩ := Ce (Kd.Ob eu.out); refine yc (n := 7) (S := fun w' => w'.cell? ⟨rT, 0, none⟩ = some (.int .i64 qE) ∧ w'.cell? ⟨rT, 1, none⟩ = some (.slice afl qF.length afm) ∧ w'.cell? (acO.add ((CB).toNat * 2)) = some (.int .i64 ((aa l1 CB).f0)) ∧ w'.cell? ⟨(acO.add ((CB).toNat * 2)).block, (acO.add ((CB).toNat * 2)).off + 1, none⟩ = some (.int .i64 ((aa l1 CB).f1))) (ds := [6]) #[false, false, false, false, false, false, false] (by kernel_rfl) rfl rfl ⟨(ai gy.out 0).trans rfl, (ai gy.out 1).trans rfl, ((zx HB Xz :)), ((zx HB Xy :))⟩ (fun hHeld => ?_); generalize wr.drew = w45 at eu gy iO HB JW JX hHeld ⊢; refine Mf 1 ?_; refine Mf 2 ?_; refine Mf 3 ?_; refine YC 0 ?_; refine YC 4 ?_; refine N8 (i := 5) (N := some 83) #[true, true, true, true, true, true, false] rfl rfl (by kernel_rfl) (by decide) (fun K hK => ?_); refine lu Tryd.func45 (by kernel_rfl) rfl #[.agg #[.int .i64 qE, .slice afl qF.length afm], .agg #[.int .i64 ((aa l1 CB).f0), .int .i64 ((aa l1 CB).f1)]] (by rfl) rfl rfl Cc ?_; with_reducible refine (bE.calls k3 qE _ _ qF ((aa l1 CB).f0) ((aa l1 CB).f1) afj afk _ ?aI ?aN A44.out).mono ?_
                 (case aI => repeat (first | exact (Kd.vM eu.out).2.2 | (with_reducible refine Kd.dY ?_ _) | (with_reducible refine Kd.dZ ?_ _) | (with_reducible refine Kd.fB ?_))); (case aN => exact (Kd.vM eu.out).2.1); rintro e w47 ⟨aC7, rfl, ho0, hb⟩; refine ⟨_, rfl, ?_⟩; have ahV := zA (Kd.dw (Kd.aiM (M := fun k_ => (w.heap.size ≤ k_)) ho0 (aJ (zB HB)) (fun k_ h_ => h_)) (aJ (zB HB))); replace eu := zA (Kd.aab (zV eu) (Kd.fe ho0) hb); replace gy := zA (dn gy hb); replace iO := zA (dn iO hb); replace HB := zA (af (zB HB) hb); obtain ⟨ajz, Js, ⟨⟩⟩ := Ce (Kd.bD ahV.out); refine hK.out _ _ ⟨(ai gy.out 0).trans rfl, (ai gy.out 1).trans rfl, ((zx HB Xz :)), ((zx HB Xy :))⟩ (fun hHeld => ?_); clear hK K; refine qp 83 ?_; refine VL (i := 6) (N := none) #[true, true, true, true, true, true, true] rfl rfl (by kernel_rfl) (by decide) (fun K hK => ?_); have aC8 := zc gy 0; have az7 := bU gy.out 0; have as1 := oh.out; have as2 := p8.out; have aC9 := zc gy 1; have az8 := bU gy.out 1; have as3 := oh.out; have as4 := p8.out; refine IU (w1 := ?_) (by rfl) rfl ?_ ?_; rotate_left; · go_simp; rfl
                 refine hK.out _ _ ?_; clear hK K; refine lK (by kernel_rfl) ?_; try go_wp2
                 go_roundg k3
                 case measure => have := iU.out; have := mo.out; have := wO.out; omega
                 case rel => exact ⟨(wrap64 (CB + 1)), (afj), (afk), (.slice ajz afk.length Js), zv, H', ⟨by have := iU.out; have := mo.out; have := wO.out; omega⟩, ⟨Kd.Kk (Kd.R_V (ok := fun k_ => w.heap.size ≤ k_ ∧ (k_ ≠ rT ∧ k_ ≠ tN)) (by refine jF ?_; exact Kd.aQ (Kd.aT (p := ⟨rT, 1, none⟩) (Kd.aT (p := ⟨rT, 0, none⟩) (Kd.bJ (Kd.bJ (Kd.bJ ahV.out gy.out (by decide)) iO.out (by decide)) gy.out (by decide)) (fun _ hk => hk.2) (.int .i64 afj)) (fun _ hk => hk.2) (.slice ajz afk.length Js)) (fun _ hk => ⟨hk.1.1.1.1, ⟨hk.1.1.2, hk.1.2⟩⟩))) (fun k_ hk => by first | exact ⟨(.inr (hk.1)), hk.2⟩ | exact (.inr (hk)))⟩, ⟨by refine zk ?_; refine aV (cs := #[.int .i64 afj, .slice afl qF.length afm]) ?_ 1 _ rfl; refine zk ?_; refine aV (cs := #[.int .i64 qE, .slice afl qF.length afm]) ?_ 0 _ rfl; refine zk ?_; exact gy.out⟩, ⟨by refine iA oh.out ?_; refine iA oh.out ?_; refine zk ?_; exact iO.out⟩, ⟨zB HB⟩⟩
               · rw [if_neg c43] at H; exact absurd H (by simp)
             · rw [if_neg c42] at H; have aqG := decide_eq_false c42; clear c42; simp only [Option.some.injEq, Prod.mk.injEq] at H; obtain ⟨rfl, rfl, rfl⟩ := H; have af6 := p8.out; have af7 := oh.out; obtain ⟨_, _, _, _⟩ := iG gy; obtain ⟨_, _, _, _⟩ := iG iO; obtain ⟨aqJ, aqK, avL⟩ := Kd.Ob eu.out; subst avL; go_wp2; refine bodyPost_ret (iw rfl _ _ tN 24 #[.int .i64 qE, .slice aqJ qF.length aqK] (0, 0) _ rfl (by refine zk ?_; refine aV (cs := #[.int .i64 qE, .slice none 0 0]) ?_ 1 _ rfl; refine zk ?_; refine aV (cs := #[.int .i64 xR, .slice none 0 0]) ?_ 0 _ rfl; refine zk ?_; exact iO.out) Tryd.underlying24 rfl (by kernel_rfl)) rfl ?_; exact ⟨_, ze, by refine zkV ?_; exact Kd.Kk (Kd.afT (p := ⟨tN, 1, none⟩) (Kd.afT (p := ⟨tN, 0, none⟩) (Kd.Kk eu.out (fun k_ hk => (⟨hk, hk.2.2⟩ : _ ∧ k_ ≠ tN))) (fun _ hk => hk.2) (.int .i64 qE)) (fun _ hk => hk.2) (.slice aqJ qF.length aqK)) (fun _ hk => hk.1.1), zB HB⟩
 · rw [if_neg c4] at H; have qU : (Ik == 0) = false := beq_eq_false_iff_ne.mpr c4; have Om : (Ik != 0) = true := bne_iff_ne.mpr c4; simp only [Option.some.injEq, Prod.mk.injEq] at H; obtain ⟨rfl, rfl, rfl⟩ := H; go_enter Tryd.func23, Tryd.ntmps23; go_wp2_with (first | ((with_reducible refine aH (N := 2) rfl ?_); refine zX (N := 2) (cs := #[.int .i64 au, .slice aZ ah.length aW]) (t := 24) ?_; intro rT hg w55 aG hb; have gy := zA (aG); have aqy := zA (zW hg HB); have aqz := zA (zW hg HB); replace wm := zA (Kd.yM (Kd.EU (zV wm) rT (Nat.le_of_eq hg.symm)) hb); replace HB := zA (af (zB HB) hb); clear hb aG hg) | ((with_reducible refine aH (N := 4) rfl ?_); refine zX (N := 4) (cs := #[.int .i64 0, .slice none 0 0]) (t := 24) ?_; intro tN hg w56 aG hb; have iO := zA (aG); have aqA := zA (zW hg HB); have aqB := zA (zW hg HB); have p8 := zA (lZ hg gy); have oh := zA (l5 hg gy); replace wm := zA (Kd.yM (Kd.EU (zV wm) tN (Nat.le_of_eq hg.symm)) hb); replace gy := zA (dn gy hb); replace HB := zA (af (zB HB) hb); clear hb aG hg; have aqv := p8.out; have aqw := oh.out; obtain ⟨_, _, _, _⟩ := iG gy) | ((with_reducible refine ay (f := 44) rfl ?_); refine zG (some 11) rfl Tryd.func44 #[.agg #[.int .i64 au, .slice aZ ah.length aW]] ?_; (with_reducible refine (aC.calls k au _ _ ah Ik _ ?aI ?aN A3.out).mono ?_); (case aI => repeat (first | exact (Kd.vM wm.out).2.2 | (with_reducible refine Kd.dY ?_ _) | (with_reducible refine Kd.dZ ?_ _) | (with_reducible refine Kd.fB ?_))); (case aN => exact (Kd.vM wm.out).2.1); rintro e w59 ⟨rfl, hb⟩; refine ⟨_, rfl, ?_⟩; replace wm := zA (Kd.yM (zV wm) hb); replace gy := zA (dn gy hb); replace iO := zA (dn iO hb); replace HB := zA (af (zB HB) hb); obtain ⟨_, _, _, _⟩ := iG iO)); refine bodyPost_ret (iw rfl _ _ tN 24 #[.int .i64 0, .slice none 0 0] (0, 0) _ rfl (by refine zk ?_; refine aV (cs := #[.int .i64 0, .slice none 0 0]) ?_ 1 _ rfl; refine zk ?_; refine aV (cs := #[.int .i64 0, .slice none 0 0]) ?_ 0 _ rfl; refine zk ?_; exact iO.out) Tryd.underlying24 rfl (by kernel_rfl)) rfl ?_; exact ⟨_, ze, Kd.Kj _ _ _ _ _, zB HB⟩
end Go.Proofs.YtjmdlmogdbhdhaaDoor.P
namespace Go.Proofs.YtjmdlmogdbhdhaaDoor.P
open Go.RowKit Go.Proofs.YtjmdlmogdbhdhaaDoorW.PrintWords Go.Proofs.YtjmdlmogdbhdhaaDoorW.PrintLast Go.Proofs.YtjmdlmogdbhdhaaDoorW.PrintMore
def LB (L : List aD) (p : aD) : Nat → Nat → List aD
  | 0, i => L.take i ++ p :: L.drop i
  | n + 1, i => if um (xq L i) p then LB L p n (i + 1) else L.take i ++ p :: L.drop i
theorem alk (p q : aD) : jA.f p.f0 p.f1 q.f0 q.f1 = some (decide (um p q)) := by
  unfold jA.f
  by_cases h1 : p.f0 < q.f0
  · rw [if_pos h1, decide_eq_true (show um p q from .inl h1)]
  · by_cases h2 : p.f0 = q.f0
    · rw [if_neg h1, if_pos h2]
      exact congrArg some (decide_eq_decide.2 ⟨fun h => .inr ⟨h2, h⟩, fun h => by unfold um at h; omega⟩)
    · rw [if_neg h1, if_neg h2, decide_eq_false (show ¬ um p q from fun h => by unfold um at h; omega)]
theorem acP (L : List aD) (p : aD) (hl : L.length ≤ 1000000) : ∀ (n i : Nat), n + i = L.length → Ev (fun k => aK.l0 k L (i : Int) p.f0 p.f1) (LB L p n i)
  | 0, i, hi => by
    have hp : (⟨p.f0, p.f1⟩ : aD) = p := rfl
    refine Ev.succ ?_
    simp only [aK.l0, Option.bind_some, hp, Int.toNat_natCast, LB]
    refine Ev.neg (by omega) (Ev.pos (by omega) (Ev.pos (by omega) (Ev.pos (by simp; omega) (Ev.pos (by simp; omega) (Ev.pos (by simp; omega) ?_)))))
    simpa using Ev.const (L.take i ++ p :: L.drop i)
  | n + 1, i, hi => by
    have hp : (⟨p.f0, p.f1⟩ : aD) = p := rfl
    have ih := acP L p hl n (i + 1) (by omega)
    refine Ev.succ ?_
    simp only [aK.l0, Option.bind_some, hp, Int.toNat_natCast, LB, Ck i (by omega), alk]
    refine Ev.pos (by omega) (Ev.pos (by omega) ?_)
    by_cases h : um (xq L i) p
    · rw [if_pos h]
      exact Ev.pos (decide_eq_true h) ih
    · rw [if_neg h]
      refine Ev.neg (fun e => h (of_decide_eq_true e)) (Ev.pos (by omega) (Ev.pos (by simp; omega) (Ev.pos (by simp; omega) (Ev.pos (by simp; omega) ?_))))
      simpa using Ev.const (L.take i ++ p :: L.drop i)
def Sy (L : List aD) (p : aD) : List aD := LB L p L.length 0
theorem Vb (L : List aD) (a b : Int) (hl : L.length ≤ 1000000) : Ev (fun k => aK.f k L a b) (Sy L ⟨a, b⟩) := by
  simp only [aK.f]
  exact acP L ⟨a, b⟩ hl L.length 0 (by omega)
theorem NG (L : List aD) (p : aD) : ∀ (n i : Nat), (LB L p n i).Perm (p :: L)
  | 0, i => by
    simp only [LB]
    exact (List.perm_middle).trans (by rw [List.take_append_drop])
  | n + 1, i => by
    simp only [LB]
    split
    · exact NG L p n (i + 1)
    · exact (List.perm_middle).trans (by rw [List.take_append_drop])
theorem xS (L : List aD) (p : aD) : (Sy L p).Perm (p :: L) := NG L p _ _
theorem Zr {p q : aD} (h : ¬ um p q) (hne : p ≠ q) : um q p := by
  cases p; cases q
  simp only [um, ne_eq, aD.mk.injEq] at *
  omega
theorem Sz (L : List aD) (p : aD) (ho : L.Pairwise um) (hp : ¬ p ∈ L) : ∀ (n i : Nat), n + i = L.length → (∀ q ∈ L.take i, um q p) → (LB L p n i).Pairwise um
  | 0, i, hi, hlt => by
    simp only [LB]
    rw [List.drop_eq_nil_of_le (by omega), List.take_of_length_le (by omega)] at *
    rw [List.pairwise_append]
    exact ⟨ho, by simp, fun a ha b hb => by obtain rfl := List.mem_singleton.1 hb; exact hlt a ha⟩
  | n + 1, i, hi, hlt => by
    have hil : i < L.length := by omega
    have hr : xq L i = L[i] := o7 L i hil
    simp only [LB]
    by_cases h : um (xq L i) p
    · rw [if_pos h]
      refine Sz L p ho hp n (i + 1) (by omega) (fun q hq => ?_)
      rw [List.take_succ_eq_append_getElem hil] at hq
      rcases List.mem_append.1 hq with hq | hq
      · exact hlt q hq
      · obtain rfl := List.mem_singleton.1 hq
        rw [← hr]; exact h
    · rw [if_neg h]
      have hpi : um p L[i] := Zr (by rw [← hr]; exact h) (fun e => hp (by rw [← e]; exact List.getElem_mem hil))
      have hd : ∀ q ∈ L.drop i, um p q := by
        intro q hq
        rw [List.drop_eq_getElem_cons hil] at hq
        rcases List.mem_cons.1 hq with rfl | hq
        · exact hpi
        · have hs : (L.drop i).Pairwise um := List.Pairwise.sublist (List.drop_sublist _ _) ho
          rw [List.drop_eq_getElem_cons hil, List.pairwise_cons] at hs
          exact Ij hpi (hs.1 q hq)
      rw [List.pairwise_append]
      refine ⟨List.Pairwise.sublist (List.take_sublist _ _) ho, List.pairwise_cons.2 ⟨hd, List.Pairwise.sublist (List.drop_sublist _ _) ho⟩, fun a ha b hb => ?_⟩
      rcases List.mem_cons.1 hb with rfl | hb
      · exact hlt a ha
      · exact Ij (hlt a ha) (hd b hb)
theorem LC {L : List aD} {p : aD} (ho : L.Pairwise um) (hp : ¬ p ∈ L) : (Sy L p).Pairwise um := Sz L p ho hp L.length 0 (by omega) (by simp)
theorem Pv {N : Int} (L : List aD) (p : aD) (hl : L.length ≤ 1000000) : ∀ (n i : Nat), n + i = L.length → ∀ acc : List aD, acc.length ≤ i → Ev (fun k => bE.l0 k (i : Int) N L p.f0 p.f1 N acc) (N, acc ++ (L.drop i).filter (fun q => decide (q ≠ p)))
  | 0, i, hi, acc, ha => by
    refine Ev.succ ?_
    simp only [bE.l0]
    refine Ev.neg (by omega) ?_
    rw [List.drop_eq_nil_of_le (by omega)]
    simpa using Ev.const (N, acc)
  | n + 1, i, hi, acc, ha => by
    have hlt : i < L.length := by omega
    refine Ev.succ ?_
    simp only [bE.l0, o7 L i hlt, Ck i (by omega)]
    refine Ev.pos (by omega) (Ev.pos (by omega) ?_)
    rw [List.drop_eq_getElem_cons hlt, List.filter_cons]
    by_cases h : L[i] = p
    · have ih := Pv (N := N) L p hl n (i + 1) (by omega) acc (by omega)
      rw [if_neg (by simp [h])]
      exact Ev.neg (by simp [h]) ih
    · have ih := Pv (N := N) L p hl n (i + 1) (by omega) (acc ++ [L[i]]) (by simp; omega)
      rw [if_pos (by simp [h])]
      refine Ev.pos ?_ (Ev.pos (by omega) (by simpa using ih))
      rw [Bool.or_eq_true, Bool.not_eq_true', Bool.not_eq_true', beq_eq_false_iff_ne, beq_eq_false_iff_ne]
      refine Decidable.byContradiction fun hc => h ?_
      generalize L[i] = q at hc ⊢
      cases q; cases p
      simp only [aD.mk.injEq] at *
      omega
theorem afn {N : Int} {L : List aD} (hG : jd N L) {p : aD} (hp : ¬ bad N p) : ∃ R, Ev (fun k => bE.f k N L p.f0 p.f1) (N, R) ∧ jd N R ∧ Jq L [p] R := by
  have hl := mq hG
  simp only [bE.f]
  by_cases h : p ∈ L
  · refine ⟨L.filter (fun q => decide (q ≠ p)), Ev.bind (JG N L p.f0 p.f1 (by omega)) (Ev.pos (decide_eq_true h) ?_), ⟨hG.n0, hG.n1, fun q hq => hG.inr q (List.mem_filter.1 hq).1, List.Pairwise.sublist List.filter_sublist hG.ord⟩, fun q => ?_⟩
    · have := Pv (N := N) L p (by omega) L.length 0 (by omega) [] (by simp)
      simpa using this
    · rw [List.mem_filter, List.mem_singleton]
      simp only [decide_eq_true_eq]
      constructor
      · rintro ⟨h1, h2⟩
        exact .inl ⟨h1, h2⟩
      · rintro (h1 | ⟨h1, rfl⟩)
        · exact h1
        · exact absurd h h1
  · refine ⟨Sy L p, Ev.bind (JG N L p.f0 p.f1 (by omega)) (Ev.neg (fun e => h (of_decide_eq_true e)) (Ev.bind (Vb L p.f0 p.f1 (by omega)) (Ev.const _))), ⟨hG.n0, hG.n1, fun q hq => ?_, LC hG.ord h⟩, fun q => ?_⟩
    · rcases List.mem_cons.1 ((xS L p).mem_iff.1 hq) with rfl | hq
      · unfold bad at hp; omega
      · exact hG.inr q hq
    · rw [(xS L p).mem_iff, List.mem_cons, List.mem_singleton]
      constructor
      · rintro (rfl | h1)
        · exact .inr ⟨h, rfl⟩
        · exact .inl ⟨h1, fun e => h (by rw [← e]; exact h1)⟩
      · rintro (⟨h1, _⟩ | ⟨_, h1⟩)
        · exact .inr h1
        · exact .inl h1
theorem Zt {L l R R' : List aD} {p : aD} (h : Jq L l R) (hp : ¬ p ∈ l) (h2 : Jq R [p] R') : Jq L (l ++ [p]) R' := by
  intro q
  rw [h2 q, h q, List.mem_append, List.mem_singleton]
  by_cases e : q = p
  · subst e
    simp only [hp, or_true, not_true, and_false, or_false, false_or, not_false_eq_true, and_true]
  · simp only [e, or_false, not_false_eq_true, and_true, and_false]
theorem XA {N : Int} {L l : List aD} (hl : ∀ p ∈ l, ¬ bad N p) (hn : l.Nodup) (hlen : l.length ≤ 1000000) : ∀ (n i : Nat), n + i = l.length → ∀ M, jd N M → Jq L (l.take i) M → ∃ R, Ev (fun k => aj.l2 k l (i : Int) N M) (N, R, 0) ∧ jd N R ∧ Jq L l R
  | 0, i, hi, M, hM, hS => by
    refine ⟨M, Ev.succ ?_, hM, by rwa [List.take_of_length_le (by omega)] at hS⟩
    simp only [aj.l2]
    exact Ev.neg (by omega) (Ev.const _)
  | n + 1, i, hi, M, hM, hS => by
    have hlt : i < l.length := by omega
    obtain ⟨R, e1, hR, hR2⟩ := afn hM (hl _ (List.getElem_mem hlt))
    have hni : ¬ l[i] ∈ l.take i := by
      intro h
      obtain ⟨j, hj, he⟩ := List.getElem_of_mem h
      rw [List.length_take] at hj
      rw [List.getElem_take] at he
      have := (List.getElem_inj hn).1 he
      omega
    have hs2 := Zt hS hni hR2
    rw [← List.take_succ_eq_append_getElem hlt] at hs2
    obtain ⟨R2, e2, h3, h4⟩ := XA hl hn hlen n (i + 1) (by omega) R hR hs2
    refine ⟨R2, Ev.succ ?_, h3, h4⟩
    simp only [aj.l2, o7 l i hlt, Ck i (by omega)]
    exact Ev.pos (by omega) (Ev.pos (by omega) (Ev.bind e1 e2))
theorem Jd {N : Int} {M l : List aD} (hlen : l.length ≤ 1000000) : ∀ (n i : Nat), n + i = l.length → (l.take i).Nodup → ¬ l.Nodup → Ev (fun k => aj.l1 k l (i : Int) N M) (0, [], 5)
  | 0, i, hi, hd, hn => absurd (by rwa [List.take_of_length_le (by omega)] at hd) hn
  | n + 1, i, hi, hd, hn => by
    have hlt : i < l.length := by omega
    refine Ev.succ ?_
    simp only [aj.l1, o7 l i hlt, Ck i (by omega), Int.toNat_natCast]
    refine Ev.pos (by omega) (Ev.pos (by omega) (Ev.pos (by omega) (Ev.bind (aa1 _ _ _ (by simp; omega)) ?_)))
    by_cases h : l[i] ∈ l.take i
    · exact Ev.pos (decide_eq_true h) (Ev.const _)
    · refine Ev.neg (fun e => h (of_decide_eq_true e)) (Jd hlen n (i + 1) (by omega) ?_ hn)
      rw [List.take_succ_eq_append_getElem hlt, List.nodup_append]
      exact ⟨hd, by simp, fun a ha b hb => by obtain rfl := List.mem_singleton.1 hb; rintro rfl; exact h ha⟩
theorem LD {N : Int} {M l : List aD} {V : Int × List aD × Int} (hlen : l.length ≤ 1000000) (hn : l.Nodup) (h2 : Ev (fun k => aj.l2 k l 0 N M) V) : ∀ (n i : Nat), n + i = l.length → Ev (fun k => aj.l1 k l (i : Int) N M) V
  | 0, i, hi => by
    refine Ev.succ ?_
    simp only [aj.l1]
    exact Ev.neg (by omega) h2
  | n + 1, i, hi => by
    have hlt : i < l.length := by omega
    have ih := LD hlen hn h2 n (i + 1) (by omega)
    refine Ev.succ ?_
    simp only [aj.l1, o7 l i hlt, Ck i (by omega), Int.toNat_natCast]
    refine Ev.pos (by omega) (Ev.pos (by omega) (Ev.pos (by omega) (Ev.bind (aa1 _ _ _ (by simp; omega)) (Ev.neg ?_ ih))))
    intro e
    have h : l[i] ∈ l.take i := of_decide_eq_true e
    obtain ⟨j, hj, he⟩ := List.getElem_of_mem h
    rw [List.length_take] at hj
    rw [List.getElem_take] at he
    have := (List.getElem_inj hn).1 he
    omega
theorem Je {N : Int} {M l : List aD} (hlen : l.length ≤ 1000000) : ∀ (n i : Nat), n + i = l.length → (∃ p ∈ l.drop i, bad N p) → Ev (fun k => aj.l0 k l (i : Int) N M) (0, [], 1)
  | 0, i, hi, hb => by
    rw [List.drop_eq_nil_of_le (by omega)] at hb
    obtain ⟨p, hp, _⟩ := hb
    cases hp
  | n + 1, i, hi, hb => by
    have hlt : i < l.length := by omega
    refine Ev.succ ?_
    simp only [aj.l0, o7 l i hlt, Ck i (by omega)]
    refine Ev.pos (by omega) (Ev.pos (by omega) ?_)
    rw [List.drop_eq_getElem_cons hlt] at hb
    by_cases h1 : (l[i]).f0 < 0
    · exact Ev.pos h1 (Ev.const _)
    · refine Ev.neg h1 ?_
      by_cases h2 : (l[i]).f0 ≥ N
      · exact Ev.pos h2 (Ev.const _)
      · refine Ev.neg h2 ?_
        by_cases h3 : (l[i]).f1 < 0
        · exact Ev.pos h3 (Ev.const _)
        · refine Ev.neg h3 ?_
          by_cases h4 : (l[i]).f1 ≥ N
          · exact Ev.pos h4 (Ev.const _)
          · refine Ev.neg h4 (Je hlen n (i + 1) (by omega) ?_)
            obtain ⟨p, hp, hbp⟩ := hb
            rcases List.mem_cons.1 hp with rfl | hp
            · unfold bad at hbp; omega
            · exact ⟨p, hp, hbp⟩
theorem EG {N : Int} {M l : List aD} {V : Int × List aD × Int} (hlen : l.length ≤ 1000000) (hl : ∀ p ∈ l, ¬ bad N p) (h1 : Ev (fun k => aj.l1 k l 0 N M) V) : ∀ (n i : Nat), n + i = l.length → Ev (fun k => aj.l0 k l (i : Int) N M) V
  | 0, i, hi => by
    refine Ev.succ ?_
    simp only [aj.l0]
    exact Ev.neg (by omega) h1
  | n + 1, i, hi => by
    have hlt : i < l.length := by omega
    have ih := EG hlen hl h1 n (i + 1) (by omega)
    have hb := hl _ (List.getElem_mem hlt)
    unfold bad at hb
    refine Ev.succ ?_
    simp only [aj.l0, o7 l i hlt, Ck i (by omega)]
    exact Ev.pos (by omega) (Ev.pos (by omega) (Ev.neg (by omega) (Ev.neg (by omega) (Ev.neg (by omega) (Ev.neg (by omega) ih)))))
theorem afo {N : Int} {L l : List aD} (hG : jd N L) (hl : ∀ p ∈ l, ¬ bad N p) (hn : l.Nodup) (hlen : l.length ≤ 1000000) : ∃ R, Ev (fun k => aj.f k N L l) (N, R, 0) ∧ jd N R ∧ Jq L l R := by
  obtain ⟨R, e, h1, h2⟩ := XA (L := L) hl hn hlen l.length 0 (by omega) L hG (fun p => by simp)
  refine ⟨R, ?_, h1, h2⟩
  have hv : D7 N L = 0 := by
    have h3 := F7 (N := N) (L := L) (by have := mq hG; omega)
    have h4 := KG hG
    obtain ⟨k3, h3⟩ := h3
    obtain ⟨k4, h4⟩ := h4
    have := (h3 (max k3 k4) (by omega)).symm.trans (h4 (max k3 k4) (by omega))
    exact Option.some.inj this
  simp only [aj.f]
  refine Ev.bind (F8 (by have := mq hG; omega)) ?_
  exact Ev.pos hv (EG hlen hl (LD hlen hn e l.length 0 (by omega)) l.length 0 (by omega))
theorem SA : ∀ (l : List aD) (seen there : List (aD × Bool)), (¬ l.Nodup ∨ ∃ p ∈ l, pq seen p = true) → CY l seen there = none
  | [], seen, there, h => by
    rcases h with h | ⟨p, hp, _⟩
    · exact absurd List.nodup_nil h
    · cases hp
  | x :: r, seen, there, h => by
    simp only [CY]
    by_cases hx : pq seen x = true
    · rw [if_pos hx]
    · rw [if_neg hx]
      refine SA r _ _ ?_
      rcases h with h | ⟨p, hp, hs⟩
      · rw [List.nodup_cons] at h
        by_cases hxr : x ∈ r
        · exact .inr ⟨x, hxr, by rw [uV, if_pos rfl]⟩
        · exact .inl (fun hn => h ⟨hxr, hn⟩)
      · rcases List.mem_cons.1 hp with rfl | hp
        · exact absurd hs hx
        · refine .inr ⟨p, hp, ?_⟩
          rw [uV]
          split
          · rfl
          · exact hs
theorem Gi (N : Int) (p : aD) : su N p = true ↔ bad N p := by
  unfold su bad
  simp only [Bool.or_eq_true, decide_eq_true_eq]
  omega
theorem acQ {N : Int} {L l : List aD} (hL : L.length ≤ 10000) (hlen : l.length ≤ 10000) : ∃ v, Ev (fun k => gB.f k N L l) v ∧ Ev (fun k => aj.f k N L l) v ∧ v.2.1.length ≤ 1600 ∧ (v.2.2 = 0 → v.1 = N ∧ jd N v.2.1) := by
  by_cases hv : D7 N L = 0
  · have hG := NC hv
    by_cases hb : ∃ p ∈ l, bad N p
    · refine ⟨(0, [], 1), ?_, ?_, by simp, fun h => by simp at h⟩
      · simp only [gB.f]
        refine Ev.bind (F7 (by omega)) (Ev.pos hv (Ev.pos (by omega) (Ev.pos ?_ (Ev.const _))))
        obtain ⟨p, hp, hbp⟩ := hb
        exact List.any_eq_true.2 ⟨p, hp, (Gi N p).2 hbp⟩
      · simp only [aj.f]
        exact Ev.bind (F8 (by omega)) (Ev.pos hv (Je (by omega) l.length 0 (by omega) (by rwa [List.drop_zero])))
    · have hl : ∀ p ∈ l, ¬ bad N p := fun p hp h => hb ⟨p, hp, h⟩
      by_cases hn : l.Nodup
      · obtain ⟨R, hR, sR, eR⟩ := MZ hG (fun p hp => by have := hl p hp; unfold bad at this; omega) hn (by omega)
        obtain ⟨R2, e2, hR2, sR2⟩ := afo hG hl hn (by omega)
        have := QW hR.ord hR2.ord sR sR2
        subst this
        exact ⟨_, eR, e2, mq hR, fun _ => ⟨rfl, hR⟩⟩
      · refine ⟨(0, [], 5), ?_, ?_, by simp, fun h => by simp at h⟩
        · simp only [gB.f]
          refine Ev.bind (F7 (by omega)) (Ev.pos hv (Ev.pos (by omega) (Ev.neg ?_ ?_)))
          · rw [List.any_eq_true]
            rintro ⟨p, hp, h⟩
            exact hl p hp ((Gi N p).1 h)
          · rw [SA l [] (zI L) (.inl hn)]
            exact Ev.const _
        · simp only [aj.f]
          exact Ev.bind (F8 (by omega)) (Ev.pos hv (EG (by omega) hl (Jd (by omega) l.length 0 (by omega) (by simp) hn) l.length 0 (by omega)))
  · refine ⟨(0, [], D7 N L), ?_, ?_, by simp, fun h => absurd h hv⟩
    · simp only [gB.f]
      exact Ev.bind (F7 (by omega)) (Ev.neg hv (Ev.const _))
    · simp only [aj.f]
      exact Ev.bind (F8 (by omega)) (Ev.neg hv (Ev.const _))
end Go.Proofs.YtjmdlmogdbhdhaaDoor.P
namespace Go.Proofs.YtjmdlmogdbhdhaaDoor.P
open Go.RowKit Go.Proofs.YtjmdlmogdbhdhaaDoorW.PrintWords Go.Proofs.YtjmdlmogdbhdhaaDoorW.PrintLast Go.Proofs.YtjmdlmogdbhdhaaDoorW.PrintMore
attribute [local go_sem] iI iJ jP jQ gH gI iK iL
set_option linter.unusedVariables false
set_option linter.unusedSimpArgs false
set_option maxHeartbeats 8000000
set_option maxRecDepth 100000
mutual
def av.l0 : Nat → List Int → Int → List (List (aD)) → Int → Int → List (aD) → Option ((List (List (aD))))
 | 0, _, _, _, _, _, _ => none
 | k + 1, x1, x2, x7, x8, o9, mK => if x8 < (mK.length : Int) then (if 0 ≤ x8 then ((bM.f k x1 ((aa mK x8).f0)).bind fun alm => (if alm = true then ((bM.f k x1 ((aa mK x8).f1)).bind fun aln => (if aln = true then (if x7.length < 5864062014805 then (av.l0 k x1 x2 (x7 ++ [(([(⟨(aa mK x8).f0, (aa mK x8).f1⟩ : aD)] : List (aD)))]) (wrap64 (x8 + 1)) o9 mK) else (none)) else (av.l0 k x1 x2 x7 (wrap64 (x8 + 1)) o9 mK))) else (av.l0 k x1 x2 x7 (wrap64 (x8 + 1)) o9 mK))) else (none)) else (av.l1 k x1 x2 x7 0 o9 mK)
def av.l1 : Nat → List Int → Int → List (List (aD)) → Int → Int → List (aD) → Option ((List (List (aD))))
 | 0, _, _, _, _, _, _ => none
 | k + 1, x1, x2, x7, x9, o9, mK => if x9 < o9 then (av.l2 k x1 x2 x7 x9 ([] : List (aD)) (x2 == 2) 0 o9 mK) else (some x7)
def av.l2 : Nat → List Int → Int → List (List (aD)) → Int → List (aD) → Bool → Int → Int → List (aD) → Option ((List (List (aD))))
 | 0, _, _, _, _, _, _, _, _, _ => none
 | k + 1, x1, x2, x7, x9, yJ, xg, wK, o9, mK => if wK < (x1.length : Int) then (if 0 ≤ wK then ((aK.f k yJ (rd x1 wK) x9).bind fun LF => (if x2 = 1 then ((bX.f k o9 mK x9 (rd x1 wK)).bind fun alo => (if alo = true then ((aK.f k LF x9 (rd x1 wK)).bind fun afp => (av.l2 k x1 x2 x7 x9 afp true (wrap64 (wK + 1)) o9 mK)) else (av.l2 k x1 x2 x7 x9 LF xg (wrap64 (wK + 1)) o9 mK))) else (av.l2 k x1 x2 x7 x9 LF xg (wrap64 (wK + 1)) o9 mK))) else (none)) else (if xg = true then ((bM.f k x1 x9).bind fun alp => (if alp = true then (av.l1 k x1 x2 x7 (wrap64 (x9 + 1)) o9 mK) else ((dm.f k o9 mK x1 x9).bind fun alq => (if alq = true then (av.l1 k x1 x2 x7 (wrap64 (x9 + 1)) o9 mK) else (if x7.length < 5864062014805 then (av.l1 k x1 x2 (x7 ++ [yJ]) (wrap64 (x9 + 1)) o9 mK) else (none)))))) else (av.l1 k x1 x2 x7 (wrap64 (x9 + 1)) o9 mK))
end
def av.f (k : Nat) (au : Int) (ah : List (aD)) (l1 : List Int) (a2 : Int) : Option ((List (List (aD)))) := av.l0 k l1 a2 ([] : List (List (aD))) 0 au ah
def av.T16 : Bool × List (List Nat × List Nat) := (true, [([], []), ([0], [0]), ([1], [1]), ([2], [2]), ([2], [2]), ([2], [2]), ([2], [2]), ([5, 6, 2], [2, 5, 6]), ([7, 2], [2, 7]), ([3, 4, 8, 2, 2], [2, 3, 4, 8]), ([2, 9], [2, 9])])
def av.B16 : List Nat := [0, 1, 3, 7, 7, 7, 7, 103, 231, 511, 1023]
theorem av.acR : oO .any (opsOf Tryd.f33 16) = av.T16 := by kernel_rfl
theorem av.Vd : lD av.T16.2 av.B16 = true := by kernel_rfl
theorem av.calls (k : Nat) (au : Int) (aZ : Option Addr) (aW : Nat) (ah : List (aD)) (A1 : Option Addr) (c1 : Nat) (l1 : List Int) (a2 : Int) (r : List (List (aD))) (w : World) (eY : Kd.C gm w aZ ah.length ah) (eZ : ah.length ≤ aW) (hr1 : Kd.C (Kd.int .i64) w A1 l1.length l1) (hc1 : l1.length ≤ c1) (h : av.f k au ah l1 a2 = some r) :
 Calls Tryd.prog 33 #[.agg #[.int .i64 au, .slice aZ ah.length aW], .slice A1 l1.length c1, .int .i64 a2] w fun e w' => ∃ Db : Value, e = .returned (Db) ∧ Kd.S (Kd.slice 42 gm) 22 w' w.heap.size (fun _ => True) Db r ∧ Below w.heap.size w w' := by
 have uk := Tryd.underlying24; have wV := Tryd.underlying42; have cz := zA eY; have dX := zA eZ; clear eY eZ; have HR1 := zA hr1; have rX := zA hc1; clear hr1 hc1; have HB := zA (Below.refl w.heap.size w); have H : (av.l0 k l1 a2 ([] : List (List (aD))) 0 au ah) = some r := h; clear h; have H' := zA H; clear H; go_enter Tryd.func33, Tryd.ntmps33; go_wp2_with (first | ((with_reducible refine aH (N := 3) rfl ?_); refine zX (N := 3) (cs := #[.int .i64 au, .slice aZ ah.length aW]) (t := 24) ?_; intro Gj hg w4 aG hb; have gY := zA (aG); have aAb := zA (zW hg HB); have aAc := zA (zW hg HB); replace HB := zA (af (zB HB) hb); clear hb aG hg)); go_loopg [7, 8] k (fun kq v7 v8 w' => ∃ (bY : List (List (aD))) (gu : Int), v8 = .int .i64 gu ∧ ag (av.l0 kq l1 a2 bY gu au ah = some r) ∧ ag (kq ≤ k) ∧ ag (Kd.S (Kd.slice 42 gm) 22 w' w.heap.size (fun _ => True) v7 bY) ∧ ag (w'.heap[Gj]? = some (.cells #[.int .i64 au, (.slice aZ ah.length aW)] 24 (0, 0))) ∧ ag (Below w.heap.size w w'))
 case atStart => exact ⟨(([] : List (List (aD)))), (0), zv, H', ⟨Nat.le_refl _⟩, ⟨Ab⟩, ⟨zK gY⟩, ⟨zB HB⟩⟩
 case round =>
  clear H'
  obtain ⟨bY, gu, rfl, HA, iU, nJ, gY, HB⟩ := hrel; cases gk with
  | zero => exact absurd HA.out (by simp [av.l0])
  | succ k1 =>
   have H := HA.out; clear HA; simp only [av.l0] at H; by_cases c5 : gu < (ah.length : Int)
   · rw [if_pos c5] at H; have pM := decide_eq_true c5; clear c5; by_cases c6 : 0 ≤ gu
     · rw [if_pos c6] at H; have yH := decide_eq_true c6; clear c6; replace H := zE H; obtain ⟨alm, A7, H⟩ := H; (try dsimp only at H); by_cases c8 : alm = true
       · subst c8; rw [if_pos rfl] at H; replace H := zE H; obtain ⟨aln, A9, H⟩ := H; (try dsimp only at H); by_cases c10 : aln = true
         · subst c10; rw [if_pos rfl] at H; obtain ⟨acS, SC⟩ : ∃ y_ : List (aD), y_ = (([(⟨(aa ah gu).f0, (aa ah gu).f1⟩ : aD)] : List (aD))) := ⟨_, rfl⟩; replace H : (if bY.length < 5864062014805 then (av.l0 k1 l1 a2 (bY ++ [acS]) (wrap64 (gu + 1)) au ah) else (none)) = some r := by first | (rw [SC]; with_reducible exact H) | (have iW := (Option.bind_some _ _).symm.trans H; rw [SC]; with_reducible exact iW) | (have iW := (Option.bind_some _ _).symm.trans H; with_reducible exact iW) | with_reducible exact H | (rw [SC]; exact H) | exact H
           have ahW := zA SC; clear SC; by_cases c11 : bY.length < 5864062014805
           · rw [if_pos c11] at H; have aqL := zA c11; clear c11; obtain ⟨aqM, SE⟩ : ∃ y_ : List (List (aD)), y_ = (bY ++ [acS]) := ⟨_, rfl⟩; replace H : (av.l0 k1 l1 a2 aqM (wrap64 (gu + 1)) au ah) = some r := by first | (rw [SE]; with_reducible exact H) | (have iW := (Option.bind_some _ _).symm.trans H; rw [SE]; with_reducible exact iW) | (have iW := (Option.bind_some _ _).symm.trans H; with_reducible exact iW) | with_reducible exact H | (rw [SE]; exact H) | exact H
             have aqN := zA SE; clear SE; have H' := zA H; clear H; obtain ⟨_, _, _, _⟩ := iG gY; have LG : 0 ≤ (gu : Int) := zo; have LH : gu < (ah.length : Int) := zo; obtain ⟨NH, acT, zg, zh⟩ := eG cz.out gu LG LH; cases acT; replace zg := (zx HB zg :); replace zh := (zx HB zh :); replace LG := eq_true LG; replace LH := eq_true LH; go_wp2_with (first | ((with_reducible refine ay (f := 34) rfl ?_); refine zG (some 27) rfl Tryd.func34 #[.slice A1 l1.length c1, .int .i64 ((aa ah gu).f0)] ?_; (with_reducible refine (bM.calls k1 _ _ l1 ((aa ah gu).f0) true _ ?aI ?aN A7.out).mono ?_); (case aI => exact jB HR1 HB); (case aN => exact rX.out); rintro e w' ⟨rfl, ⟨nd, rfl⟩⟩; refine ⟨_, rfl, ?_⟩; have Ve : 0 ≤ (gu : Int) := zo; have Vf : gu < (ah.length : Int) := zo; obtain ⟨acU, alr, Gl, Gm⟩ := eG cz.out gu Ve Vf; obtain rfl : NH = acU := (by injection alr); replace Gl := (zx HB Gl :); replace Gm := (zx HB Gm :); replace Ve := eq_true Ve; replace Vf := eq_true Vf) | (go_at_call 34; (with_reducible refine (bM.calls k1 _ _ l1 ((aa ah gu).f1) true _ ?aI ?aN A9.out).mono ?_); (case aI => repeat (first | exact (Kd.bu HR1.out (zB HB)) | (with_reducible refine Kd.dY ?_ _) | (with_reducible refine Kd.dZ ?_ _) | (with_reducible refine Kd.fB ?_))); (case aN => exact rX.out); rintro e w' ⟨rfl, ⟨nd, rfl⟩⟩; have als : 0 ≤ (gu : Int) := zo; have alu : gu < (ah.length : Int) := zo; obtain ⟨aqO, avM, XB, XC⟩ := eG cz.out gu als alu; obtain rfl : NH = aqO := (by injection avM); replace XB := (zx HB XB :); replace XC := (zx HB XC :); replace als := eq_true als; replace alu := eq_true alu) | ((with_reducible refine aH (N := 44) rfl ?_); refine Kd.IP gm _ 42 ?hg (N := 44) ?hd (xs := ([(⟨(aa ah gu).f0, (aa ah gu).f1⟩ : aD)] : List (aD))) (inner := [.int .i64 ((aa ah gu).f0), .int .i64 ((aa ah gu).f1)]) (ok := fun _ => True) (tX := fun _ => True) ?hr ?hp (fun _ hk => hk) trivial (Below.refl _ _) (Nat.le_refl _) (by simp) ?_; (case hd => rfl); (case hg => rfl); (case hr => first | (go_simp; done) | (go_simp; rfl)); (case hp => exact (gP.c2 (show Kd.M gm _ _ _ (⟨(aa ah gu).f0, (aa ah gu).f1⟩ : aD) [.int .i64 ((aa ah gu).f0), .int .i64 ((aa ah gu).f1)] from (mR _ _ _ (⟨(aa ah gu).f0, (aa ah gu).f1⟩ : aD) )) (gP.none _ _))); intro aDc Tw Zu hb Ac lS; clear Ac lS; (first | rw [← ahW.out] at Zu | (simp only [Int.reduceToNat] at Zu; rw [← ahW.out] at Zu)); have XD := zA (Kd.dw Zu (aJ (zB HB))); replace nJ := zA (Kd.yf (zS nJ) (Kd.fe Zu) hb); replace gY := zA (dn gY hb); replace HB := zA (af (zB HB) hb); clear hb Zu; obtain ⟨xe, qm, alv⟩ := Kd.bD XD.out; subst alv) | ((with_reducible refine fZ (b := .append) (xs := #[.tmp 38, .tmp 45]) rfl ?_); at_builtin; refine Kd.CL (Kd.slice 42 gm) (w0 := w) w.heap.size rfl (.tmp 38) (.tmp 45) 26 22 (.slice none 0 0) 24 rfl Tryd.underlying26 Kl rfl (by decide) (by omega) u7 bY acS [.slice xe acS.length qm] (fun _ => True) (fun k_ => some k_ = (.slice xe acS.length qm : Value).ownBlock) rfl rfl ?aP (fun k_ CF => ((Kd.aQ (ok' := fun k_ => ((fun _ => True)) k_ ∧ some k_ ≠ (u7 : Value).ownBlock) (Kd.oC (XD.out) (Kd.o6 nJ.out) (by decide)) (fun k_ hk => ⟨trivial, hk.2⟩))).1 k_ CF.symm) ?aF ?aO ?aB ?aS ?aL ?_; (case aP => exact Kd.Qg (Kd.aQ (Kd.wS rfl (Kd.aQ (ok' := fun k_ => ((fun _ => True)) k_ ∧ some k_ ≠ (u7 : Value).ownBlock) (Kd.oC (XD.out) (Kd.o6 nJ.out) (by decide)) (fun k_ hk => ⟨trivial, hk.2⟩))) (fun _ h_ => h_))); (case aB => exact (zB HB)); (case aF => exact (fun _ _ => trivial)); (case aO => exact (by refine sM ?_; exact Kd.dF nJ.out (fun k_ hk => ⟨trivial, fun e_ => hk.2 e_⟩))); (case aS => exact (aJ (zB HB))); (case aL => have := aqL.out; omega); intro aDd ZF ho hb hg hat; rw [← aqN.out] at ho; have aqP := zA (ho); replace gY := zA (bZ (g := Gj) (o := .cells #[.int .i64 au, .slice (some NH) ah.length aW] 24 (0, 0)) (zK gY) hg (Kd.Oa nJ.out gY.out (by decide))); replace HB := zA (hb); clear nJ XD; clear ho hb hg hat)); go_roundg k1
             case measure => have := iU.out; omega
             case rel => exact ⟨(aqM), (wrap64 (gu + 1)), zv, H', ⟨by have := iU.out; omega⟩, ⟨zS aqP⟩, ⟨zK gY⟩, ⟨zB HB⟩⟩
           · rw [if_neg c11] at H; exact absurd H (by simp)
         · replace c10 := Bool.eq_false_iff.mpr c10; subst c10; rw [if_neg (show ¬ (false = true) by decide)] at H; have H' := zA H; clear H; obtain ⟨_, _, _, _⟩ := iG gY; have LG : 0 ≤ (gu : Int) := zo; have LH : gu < (ah.length : Int) := zo; obtain ⟨NH, acT, zg, zh⟩ := eG cz.out gu LG LH; cases acT; replace zg := (zx HB zg :); replace zh := (zx HB zh :); replace LG := eq_true LG; replace LH := eq_true LH; go_wp2_with (first | ((with_reducible refine ay (f := 34) rfl ?_); refine zG (some 27) rfl Tryd.func34 #[.slice A1 l1.length c1, .int .i64 ((aa ah gu).f0)] ?_; (with_reducible refine (bM.calls k1 _ _ l1 ((aa ah gu).f0) true _ ?aI ?aN A7.out).mono ?_); (case aI => exact jB HR1 HB); (case aN => exact rX.out); rintro e w' ⟨rfl, ⟨nd, rfl⟩⟩; refine ⟨_, rfl, ?_⟩; have Ve : 0 ≤ (gu : Int) := zo; have Vf : gu < (ah.length : Int) := zo; obtain ⟨acU, alr, Gl, Gm⟩ := eG cz.out gu Ve Vf; obtain rfl : NH = acU := (by injection alr); replace Gl := (zx HB Gl :); replace Gm := (zx HB Gm :); replace Ve := eq_true Ve; replace Vf := eq_true Vf) | (go_at_call 34; (with_reducible refine (bM.calls k1 _ _ l1 ((aa ah gu).f1) false _ ?aI ?aN A9.out).mono ?_); (case aI => repeat (first | exact (Kd.bu HR1.out (zB HB)) | (with_reducible refine Kd.dY ?_ _) | (with_reducible refine Kd.dZ ?_ _) | (with_reducible refine Kd.fB ?_))); (case aN => exact rX.out); rintro e w' ⟨rfl, ⟨nd, rfl⟩⟩)); go_roundg k1
           case measure => have := iU.out; omega
           case rel => exact ⟨(bY), (wrap64 (gu + 1)), zv, H', ⟨by have := iU.out; omega⟩, ⟨zS nJ⟩, ⟨zK gY⟩, ⟨zB HB⟩⟩
       · replace c8 := Bool.eq_false_iff.mpr c8; subst c8; rw [if_neg (show ¬ (false = true) by decide)] at H; have H' := zA H; clear H; obtain ⟨_, _, _, _⟩ := iG gY; have LG : 0 ≤ (gu : Int) := zo; have LH : gu < (ah.length : Int) := zo; obtain ⟨NH, acT, zg, zh⟩ := eG cz.out gu LG LH; cases acT; replace zg := (zx HB zg :); replace zh := (zx HB zh :); replace LG := eq_true LG; replace LH := eq_true LH; go_wp2_with (first | ((with_reducible refine ay (f := 34) rfl ?_); refine zG (some 27) rfl Tryd.func34 #[.slice A1 l1.length c1, .int .i64 ((aa ah gu).f0)] ?_; (with_reducible refine (bM.calls k1 _ _ l1 ((aa ah gu).f0) false _ ?aI ?aN A7.out).mono ?_); (case aI => exact jB HR1 HB); (case aN => exact rX.out); rintro e w' ⟨rfl, ⟨nd, rfl⟩⟩; refine ⟨_, rfl, ?_⟩)); go_roundg k1
         case measure => have := iU.out; omega
         case rel => exact ⟨(bY), (wrap64 (gu + 1)), zv, H', ⟨by have := iU.out; omega⟩, ⟨zS nJ⟩, ⟨zK gY⟩, ⟨zB HB⟩⟩
     · rw [if_neg c6] at H; exact absurd H (by simp)
   · rw [if_neg c5] at H; have pM := decide_eq_false c5; clear c5; have H' := zA H; clear H; obtain ⟨_, _, _, _⟩ := iG gY; go_wp2; go_loopg [7, 9] k1 (fun kq v7 v9 w' => ∃ (LJ : List (List (aD))) (oM : Int), v9 = .int .i64 oM ∧ ag (av.l1 kq l1 a2 LJ oM au ah = some r) ∧ ag (kq ≤ k1) ∧ ag (Kd.S (Kd.slice 42 gm) 22 w' w.heap.size (fun _ => True) v7 LJ) ∧ ag (w'.heap[Gj]? = some (.cells #[.int .i64 au, (.slice aZ ah.length aW)] 24 (0, 0))) ∧ ag (Below w.heap.size w w'))
     case atStart => exact ⟨(bY), (0), zv, H', ⟨Nat.le_refl _⟩, ⟨zS nJ⟩, ⟨zK gY⟩, ⟨zB HB⟩⟩
     case round =>
      clear H'
      obtain ⟨LJ, oM, rfl, HA, mo, nJ, gY, HB⟩ := hrel; cases gk with
      | zero => exact absurd HA.out (by simp [av.l1])
      | succ k2 =>
       have H := HA.out; clear HA; simp only [av.l1] at H; by_cases c20 : oM < au
       · rw [if_pos c20] at H; have Fx := decide_eq_true c20; clear c20; have H' := zA H; clear H; obtain ⟨_, _, _, _⟩ := iG gY; go_wp2; go_loopg [10, 11, 12] k2 (fun kq v10 v11 v12 w' => ∃ (Ba : List (aD)) (NI : Bool) (lg : Int), v11 = .bool NI ∧ v12 = .int .i64 lg ∧ ag (av.l2 kq l1 a2 LJ oM Ba NI lg au ah = some r) ∧ ag (kq ≤ k2) ∧ ag (Kd.S (Kd.slice 42 gm) 22 w' w.heap.size (fun k_ => some k_ ≠ (v10 : Value).ownBlock) u7 LJ) ∧ ag (Kd.R gm 42 w' w.heap.size (fun _ => True) v10 Ba) ∧ ag (w'.heap[Gj]? = some (.cells #[.int .i64 au, (.slice aZ ah.length aW)] 24 (0, 0))) ∧ ag (Below w.heap.size w w'))
         case atStart => exact ⟨(([] : List (aD))), ((a2 == 2)), (0), zv, zv, H', ⟨Nat.le_refl _⟩, ⟨by refine sM ?_; exact Kd.dF nJ.out (fun _ hk => (by simp [Value.ownBlock]))⟩, ⟨Ab⟩, ⟨zK gY⟩, ⟨zB HB⟩⟩
         case round =>
          clear H'
          obtain ⟨Ba, NI, lg, rfl, rfl, HA, wO, nJ, fA, gY, HB⟩ := hrel; cases gk with
          | zero => exact absurd HA.out (by simp [av.l2])
          | succ k3 =>
           have H := HA.out; clear HA; simp only [av.l2] at H; by_cases DZ : lg < (l1.length : Int)
           · rw [if_pos DZ] at H; have Lh := decide_eq_true DZ; clear DZ; by_cases c23 : 0 ≤ lg
             · rw [if_pos c23] at H; have agn := decide_eq_true c23; clear c23; replace H := zE H; obtain ⟨LF, A24, H⟩ := H; (try dsimp only at H); by_cases JB : a2 = 1
               · rw [if_pos JB] at H; have VZ : (a2 == 1) = true := beq_iff_eq.mpr JB; have aqQ : (a2 != 1) = false := bne_eq_false_iff_eq.mpr JB; clear JB; replace H := zE H; obtain ⟨alo, A26, H⟩ := H; (try dsimp only at H); by_cases Tx : alo = true
                 · subst Tx; rw [if_pos rfl] at H; replace H := zE H; obtain ⟨afp, A28, H⟩ := H; (try dsimp only at H); have H' := zA H; clear H; have LK : 0 ≤ (lg : Int) := zo; have LM : lg < (l1.length : Int) := zo; obtain ⟨LP, acV, zi⟩ := Kd.eP HR1.out lg LK LM; cases acV; replace zi := (zx HB zi :); replace LK := eq_true LK; replace LM := eq_true LM; obtain ⟨tZ, uf, abR⟩ := Kd.bD fA.out; subst abR; try go_wp2_with (first | ((with_reducible refine ay (f := 61) rfl ?_); refine zG (some 68) rfl Tryd.func61 #[.slice tZ Ba.length uf, .agg #[.int .i64 (rd l1 lg), .int .i64 oM]] ?_; (with_reducible refine (aK.calls k3 _ _ Ba (rd l1 lg) oM LF _ ?aI ?aN A24.out).mono ?_); (case aI => repeat (first | exact (Kd.aU fA.out).2.2 | (with_reducible refine Kd.dY ?_ _) | (with_reducible refine Kd.dZ ?_ _) | (with_reducible refine Kd.fB ?_))); (case aN => exact (Kd.aU fA.out).2.1); rintro e w30 ⟨aqR, rfl, ho0, hb⟩; refine ⟨_, rfl, ?_⟩; have q9 := zA (Kd.dw (Kd.gz ho0 (Kd.kP (zR fA))) (aJ (zB HB))); replace nJ := zA (Kd.yf (zS nJ) (Kd.fe ho0) hb); replace fA := zA (Kd.dQ (zR fA) (Kd.fe ho0) hb); replace gY := zA (dn gY hb); replace HB := zA (af (zB HB) hb)))
                   replace nJ := zA (Kd.Bi nJ.out); replace fA := zA (Kd.nL fA.out); replace q9 := zA (Kd.nL q9.out); replace gY := zA (bO gY.out); replace HB := zA (bn HB.out); have Vg : 0 ≤ (lg : Int) := zo; have Vh : lg < (l1.length : Int) := zo; obtain ⟨acW, alx, xG⟩ := Kd.eP HR1.out lg Vg Vh; have Gn := xG; obtain rfl : LP = acW := (by injection alx); replace xG := (zx HB xG :); replace Vg := eq_true Vg; replace Vh := eq_true Vh; refine EJ (n := 11) (S := fun w' => w'.cell? ⟨Gj, 0, none⟩ = some (.int .i64 au) ∧ w'.cell? ⟨Gj, 1, none⟩ = some (.slice aZ ah.length aW) ∧ w'.cell? (LP.add (lg).toNat) = some (.int .i64 (rd l1 lg))) (ds := []) av.acR av.Vd ⟨(ai gY.out 0).trans rfl, (ai gY.out 1).trans rfl, ((zx HB Gn :))⟩ (fun hHeld qd DY => ?_); generalize w30.drew = w31 at nJ fA q9 gY HB xG hHeld ⊢; refine zp 0 ?_; refine zp 1 ?_; refine zp 2 ?_; refine zp 4 ?_; refine zp 5 ?_; refine zp 6 ?_; refine zp 7 ?_; refine zt 3 ?_; refine zt 8 ?_; refine wU 9 (fun K hK => ?_); refine lu Tryd.func62 (by kernel_rfl) rfl #[.agg #[.int .i64 au, .slice aZ ah.length aW], .int .i64 oM, .int .i64 (rd l1 lg)] (by rfl) rfl rfl Cc ?_; with_reducible refine (bX.calls k3 au _ _ ah oM (rd l1 lg) true _ ?aI ?aN A26.out).mono ?_
                   (case aI => exact jB cz HB); (case aN => exact dX.out); rintro e w32 ⟨rfl, hb⟩; refine ⟨_, rfl, ?_⟩; replace nJ := zA (Kd.iY (zS nJ) hb); replace fA := zA (Kd.bf (zR fA) hb); replace q9 := zA (Kd.bf (zR q9) hb); replace gY := zA (dn gY hb); replace HB := zA (af (zB HB) hb); refine hK.out _ _ ⟨(ai gY.out 0).trans rfl, (ai gY.out 1).trans rfl, ((zx HB Gn :))⟩ (fun hHeld => ?_); clear hK K; refine qp 78 ?_; refine zp 10 ?_; refine lK (iZ qd.out (by kernel_rfl)) ?_; have aly : 0 ≤ (lg : Int) := zo; have alz : lg < (l1.length : Int) := zo; obtain ⟨aqS, avN, XE⟩ := Kd.eP HR1.out lg aly alz; obtain rfl : LP = aqS := (by injection avN); replace XE := (zx HB XE :); replace aly := eq_true aly; replace alz := eq_true alz; obtain ⟨aeH, aeI, ajZ⟩ := Kd.bD q9.out; subst ajZ; try go_wp2_with (first | ((with_reducible refine ay (f := 61) rfl ?_); refine zG (some 87) rfl Tryd.func61 #[.slice aeH LF.length aeI, .agg #[.int .i64 oM, .int .i64 (rd l1 lg)]] ?_; (with_reducible refine (aK.calls k3 _ _ LF oM (rd l1 lg) afp _ ?aI ?aN A28.out).mono ?_); (case aI => repeat (first | exact (Kd.aU q9.out).2.2 | (with_reducible refine Kd.dY ?_ _) | (with_reducible refine Kd.dZ ?_ _) | (with_reducible refine Kd.fB ?_))); (case aN => exact (Kd.aU q9.out).2.1); rintro e w34 ⟨aDf, rfl, ho0, hb⟩; refine ⟨_, rfl, ?_⟩; have aqT := zA (Kd.dw (Kd.gz (Kd.gz ho0 (Kd.kP (zR fA))) (Kd.kP (zR q9))) (aJ (zB HB))); replace nJ := zA (Kd.yf (zS nJ) (Kd.fe ho0) hb); replace fA := zA (Kd.dQ (zR fA) (Kd.fe ho0) hb); replace q9 := zA (Kd.dQ (zR q9) (Kd.fe ho0) hb); replace gY := zA (dn gY hb); replace HB := zA (af (zB HB) hb)))
                   go_roundg k3
                   case measure => have := iU.out; have := mo.out; have := wO.out; omega
                   case rel => exact ⟨(afp), (true), (wrap64 (lg + 1)), zv, zv, H', ⟨by have := iU.out; have := mo.out; have := wO.out; omega⟩, ⟨by refine sM ?_; exact Kd.dF nJ.out (fun _ hk => hk.2)⟩, ⟨by refine jF ?_; exact Kd.aQ aqT.out (fun _ hk => trivial)⟩, ⟨zK gY⟩, ⟨zB HB⟩⟩
                 · replace Tx := Bool.eq_false_iff.mpr Tx; subst Tx; rw [if_neg (show ¬ (false = true) by decide)] at H; have H' := zA H; clear H; have LK : 0 ≤ (lg : Int) := zo; have LM : lg < (l1.length : Int) := zo; obtain ⟨LP, acV, zi⟩ := Kd.eP HR1.out lg LK LM; cases acV; replace zi := (zx HB zi :); replace LK := eq_true LK; replace LM := eq_true LM; obtain ⟨avO, avP, avQ⟩ := Kd.bD fA.out; subst avQ; try go_wp2_with (first | ((with_reducible refine ay (f := 61) rfl ?_); refine zG (some 68) rfl Tryd.func61 #[.slice avO Ba.length avP, .agg #[.int .i64 (rd l1 lg), .int .i64 oM]] ?_; (with_reducible refine (aK.calls k3 _ _ Ba (rd l1 lg) oM LF _ ?aI ?aN A24.out).mono ?_); (case aI => repeat (first | exact (Kd.aU fA.out).2.2 | (with_reducible refine Kd.dY ?_ _) | (with_reducible refine Kd.dZ ?_ _) | (with_reducible refine Kd.fB ?_))); (case aN => exact (Kd.aU fA.out).2.1); rintro e w36 ⟨aqR, rfl, ho0, hb⟩; refine ⟨_, rfl, ?_⟩; have q9 := zA (Kd.dw (Kd.gz ho0 (Kd.kP (zR fA))) (aJ (zB HB))); replace nJ := zA (Kd.yf (zS nJ) (Kd.fe ho0) hb); replace fA := zA (Kd.dQ (zR fA) (Kd.fe ho0) hb); replace gY := zA (dn gY hb); replace HB := zA (af (zB HB) hb)))
                   replace nJ := zA (Kd.Bi nJ.out); replace fA := zA (Kd.nL fA.out); replace q9 := zA (Kd.nL q9.out); replace gY := zA (bO gY.out); replace HB := zA (bn HB.out); have Vg : 0 ≤ (lg : Int) := zo; have Vh : lg < (l1.length : Int) := zo; obtain ⟨acW, alx, xG⟩ := Kd.eP HR1.out lg Vg Vh; have Gn := xG; obtain rfl : LP = acW := (by injection alx); replace xG := (zx HB xG :); replace Vg := eq_true Vg; replace Vh := eq_true Vh; refine EJ (n := 11) (S := fun w' => w'.cell? ⟨Gj, 0, none⟩ = some (.int .i64 au) ∧ w'.cell? ⟨Gj, 1, none⟩ = some (.slice aZ ah.length aW) ∧ w'.cell? (LP.add (lg).toNat) = some (.int .i64 (rd l1 lg))) (ds := []) av.acR av.Vd ⟨(ai gY.out 0).trans rfl, (ai gY.out 1).trans rfl, ((zx HB Gn :))⟩ (fun hHeld qd DY => ?_); generalize w36.drew = w37 at nJ fA q9 gY HB xG hHeld ⊢; refine zp 0 ?_; refine zp 1 ?_; refine zp 2 ?_; refine zp 4 ?_; refine zp 5 ?_; refine zp 6 ?_; refine zp 7 ?_; refine zt 3 ?_; refine zt 8 ?_; refine wU 9 (fun K hK => ?_); refine lu Tryd.func62 (by kernel_rfl) rfl #[.agg #[.int .i64 au, .slice aZ ah.length aW], .int .i64 oM, .int .i64 (rd l1 lg)] (by rfl) rfl rfl Cc ?_; with_reducible refine (bX.calls k3 au _ _ ah oM (rd l1 lg) false _ ?aI ?aN A26.out).mono ?_
                   (case aI => exact jB cz HB); (case aN => exact dX.out); rintro e w38 ⟨rfl, hb⟩; refine ⟨_, rfl, ?_⟩; replace nJ := zA (Kd.iY (zS nJ) hb); replace fA := zA (Kd.bf (zR fA) hb); replace q9 := zA (Kd.bf (zR q9) hb); replace gY := zA (dn gY hb); replace HB := zA (af (zB HB) hb); refine hK.out _ _ ⟨(ai gY.out 0).trans rfl, (ai gY.out 1).trans rfl, ((zx HB Gn :))⟩ (fun hHeld => ?_); clear hK K; refine qp 78 ?_; refine zp 10 ?_; refine lK (iZ qd.out (by kernel_rfl)) ?_; try go_wp2
                   go_roundg k3
                   case measure => have := iU.out; have := mo.out; have := wO.out; omega
                   case rel => exact ⟨(LF), (NI), (wrap64 (lg + 1)), zv, zv, H', ⟨by have := iU.out; have := mo.out; have := wO.out; omega⟩, ⟨by refine sM ?_; exact Kd.dF nJ.out (fun _ hk => hk.2)⟩, ⟨by refine jF ?_; exact Kd.aQ q9.out (fun _ hk => trivial)⟩, ⟨zK gY⟩, ⟨zB HB⟩⟩
               · rw [if_neg JB] at H; have VZ : (a2 == 1) = false := beq_eq_false_iff_ne.mpr JB; have aqQ : (a2 != 1) = true := bne_iff_ne.mpr JB; have H' := zA H; clear H; have LK : 0 ≤ (lg : Int) := zo; have LM : lg < (l1.length : Int) := zo; obtain ⟨LP, acV, zi⟩ := Kd.eP HR1.out lg LK LM; cases acV; replace zi := (zx HB zi :); replace LK := eq_true LK; replace LM := eq_true LM; obtain ⟨avR, avS, avT⟩ := Kd.bD fA.out; subst avT; try go_wp2_with (first | ((with_reducible refine ay (f := 61) rfl ?_); refine zG (some 68) rfl Tryd.func61 #[.slice avR Ba.length avS, .agg #[.int .i64 (rd l1 lg), .int .i64 oM]] ?_; (with_reducible refine (aK.calls k3 _ _ Ba (rd l1 lg) oM LF _ ?aI ?aN A24.out).mono ?_); (case aI => repeat (first | exact (Kd.aU fA.out).2.2 | (with_reducible refine Kd.dY ?_ _) | (with_reducible refine Kd.dZ ?_ _) | (with_reducible refine Kd.fB ?_))); (case aN => exact (Kd.aU fA.out).2.1); rintro e w40 ⟨aqR, rfl, ho0, hb⟩; refine ⟨_, rfl, ?_⟩; have q9 := zA (Kd.dw (Kd.gz ho0 (Kd.kP (zR fA))) (aJ (zB HB))); replace nJ := zA (Kd.yf (zS nJ) (Kd.fe ho0) hb); replace fA := zA (Kd.dQ (zR fA) (Kd.fe ho0) hb); replace gY := zA (dn gY hb); replace HB := zA (af (zB HB) hb)))
                 replace nJ := zA (Kd.Bi nJ.out); replace fA := zA (Kd.nL fA.out); replace q9 := zA (Kd.nL q9.out); replace gY := zA (bO gY.out); replace HB := zA (bn HB.out); refine yc (n := 11) (S := fun w' => True) (ds := []) #[false, false, false, false, false, false, false, false, false, false, false] (by kernel_rfl) rfl rfl trivial (fun hHeld => ?_); refine z8 av.acR av.Vd (fun qd DY => ?_); generalize w40.drew = w41 at nJ fA q9 gY HB hHeld ⊢; refine zp 0 ?_; refine zp 1 ?_; refine zp 2 ?_; refine zq 3 ?_; refine zq 4 ?_; refine zq 5 ?_; refine zq 6 ?_; refine zq 7 ?_; refine zq 8 ?_; refine zq 9 ?_; refine zp 10 ?_; refine lK (iZ qd.out (by kernel_rfl)) ?_; try go_wp2
                 go_roundg k3
                 case measure => have := iU.out; have := mo.out; have := wO.out; omega
                 case rel => exact ⟨(LF), (NI), (wrap64 (lg + 1)), zv, zv, H', ⟨by have := iU.out; have := mo.out; have := wO.out; omega⟩, ⟨by refine sM ?_; exact Kd.dF nJ.out (fun _ hk => hk.2)⟩, ⟨by refine jF ?_; exact Kd.aQ q9.out (fun _ hk => trivial)⟩, ⟨zK gY⟩, ⟨zB HB⟩⟩
             · rw [if_neg c23] at H; exact absurd H (by simp)
           · rw [if_neg DZ] at H; have Lh := decide_eq_false DZ; clear DZ; by_cases c42 : NI = true
             · subst c42; rw [if_pos rfl] at H; replace H := zE H; obtain ⟨alp, A43, H⟩ := H; (try dsimp only at H); by_cases c44 : alp = true
               · subst c44; rw [if_pos rfl] at H; have H' := zA H; clear H; go_wp2_with (first | (go_at_call 34; (with_reducible refine (bM.calls k3 _ _ l1 oM true _ ?aI ?aN A43.out).mono ?_); (case aI => exact jB HR1 HB); (case aN => exact rX.out); rintro e w' ⟨rfl, ⟨nd, rfl⟩⟩)); go_roundg k3
                 case measure => have := iU.out; have := mo.out; have := wO.out; omega
                 case rel => exact ⟨(LJ), (wrap64 (oM + 1)), zv, H', ⟨by have := iU.out; have := mo.out; have := wO.out; omega⟩, ⟨by refine sM ?_; exact Kd.dF nJ.out (fun _ hk => trivial)⟩, ⟨zK gY⟩, ⟨zB HB⟩⟩
               · replace c44 := Bool.eq_false_iff.mpr c44; subst c44; rw [if_neg (show ¬ (false = true) by decide)] at H; replace H := zE H; obtain ⟨alq, A45, H⟩ := H; (try dsimp only at H); by_cases c46 : alq = true
                 · subst c46; rw [if_pos rfl] at H; have H' := zA H; clear H; go_wp2_with (first | (go_at_call 34; (with_reducible refine (bM.calls k3 _ _ l1 oM false _ ?aI ?aN A43.out).mono ?_); (case aI => exact jB HR1 HB); (case aN => exact rX.out); rintro e w' ⟨rfl, ⟨nd, rfl⟩⟩; obtain ⟨_, _, _, _⟩ := iG gY) | (go_at_call 63; (with_reducible refine (dm.calls k3 au _ _ ah _ _ l1 oM true _ ?aI ?aN ?bS ?bT A45.out).mono ?_); (case aI => repeat (first | exact (Kd.bu cz.out (zB HB)) | (with_reducible refine Kd.dY ?_ _) | (with_reducible refine Kd.dZ ?_ _) | (with_reducible refine Kd.fB ?_))); (case aN => exact dX.out); (case bS => repeat (first | exact (Kd.bu HR1.out (zB HB)) | (with_reducible refine Kd.dY ?_ _) | (with_reducible refine Kd.dZ ?_ _) | (with_reducible refine Kd.fB ?_))); (case bT => exact rX.out); rintro e w48 ⟨rfl, hb⟩; replace nJ := zA (Kd.iY (zS nJ) hb); replace fA := zA (Kd.bf (zR fA) hb); replace gY := zA (dn gY hb); replace HB := zA (af (zB HB) hb))); go_roundg k3
                   case measure => have := iU.out; have := mo.out; have := wO.out; omega
                   case rel => exact ⟨(LJ), (wrap64 (oM + 1)), zv, H', ⟨by have := iU.out; have := mo.out; have := wO.out; omega⟩, ⟨by refine sM ?_; exact Kd.dF nJ.out (fun _ hk => trivial)⟩, ⟨zK gY⟩, ⟨zB HB⟩⟩
                 · replace c46 := Bool.eq_false_iff.mpr c46; subst c46; rw [if_neg (show ¬ (false = true) by decide)] at H; by_cases c49 : LJ.length < 5864062014805
                   · rw [if_pos c49] at H; have abL := zA c49; clear c49; obtain ⟨aqU, SF⟩ : ∃ y_ : List (List (aD)), y_ = (LJ ++ [Ba]) := ⟨_, rfl⟩; replace H : (av.l1 k3 l1 a2 aqU (wrap64 (oM + 1)) au ah) = some r := by first | (rw [SF]; with_reducible exact H) | (have iW := (Option.bind_some _ _).symm.trans H; rw [SF]; with_reducible exact iW) | (have iW := (Option.bind_some _ _).symm.trans H; with_reducible exact iW) | with_reducible exact H | (rw [SF]; exact H) | exact H
                     have aqV := zA SF; clear SF; have H' := zA H; clear H; go_wp2_with (first | (go_at_call 34; (with_reducible refine (bM.calls k3 _ _ l1 oM false _ ?aI ?aN A43.out).mono ?_); (case aI => exact jB HR1 HB); (case aN => exact rX.out); rintro e w' ⟨rfl, ⟨nd, rfl⟩⟩; obtain ⟨_, _, _, _⟩ := iG gY) | (go_at_call 63; (with_reducible refine (dm.calls k3 au _ _ ah _ _ l1 oM false _ ?aI ?aN ?bS ?bT A45.out).mono ?_); (case aI => repeat (first | exact (Kd.bu cz.out (zB HB)) | (with_reducible refine Kd.dY ?_ _) | (with_reducible refine Kd.dZ ?_ _) | (with_reducible refine Kd.fB ?_))); (case aN => exact dX.out); (case bS => repeat (first | exact (Kd.bu HR1.out (zB HB)) | (with_reducible refine Kd.dY ?_ _) | (with_reducible refine Kd.dZ ?_ _) | (with_reducible refine Kd.fB ?_))); (case bT => exact rX.out); rintro e Um ⟨rfl, hb⟩; replace nJ := zA (Kd.iY (zS nJ) hb); replace fA := zA (Kd.bf (zR fA) hb); replace gY := zA (dn gY hb); replace HB := zA (af (zB HB) hb); obtain ⟨ajD, aa6, avV⟩ := Kd.bD fA.out; subst avV) | ((with_reducible refine fZ (b := .append) (xs := #[.tmp 102, .tmp 104]) rfl ?_); at_builtin; refine Kd.CL (Kd.slice 42 gm) (w0 := w) w.heap.size rfl (.tmp 102) (.tmp 104) 26 22 (.slice none 0 0) 24 rfl Tryd.underlying26 Kl rfl (by decide) (by omega) u7 LJ Ba [.slice ajD Ba.length aa6] (fun _ => True) (fun k_ => some k_ = (.slice ajD Ba.length aa6 : Value).ownBlock) rfl rfl ?aP (fun k_ CF => ((Kd.aQ (ok' := fun k_ => ((fun _ => True)) k_ ∧ some k_ ≠ (u7 : Value).ownBlock) (Kd.oC (fA.out) (Kd.o6 nJ.out) (by decide)) (fun k_ hk => ⟨trivial, hk.2⟩))).1 k_ CF.symm) ?aF ?aO ?aB ?aS ?aL ?_; (case aP => exact Kd.Qg (Kd.aQ (Kd.wS rfl (Kd.aQ (ok' := fun k_ => ((fun _ => True)) k_ ∧ some k_ ≠ (u7 : Value).ownBlock) (Kd.oC (fA.out) (Kd.o6 nJ.out) (by decide)) (fun k_ hk => ⟨trivial, hk.2⟩))) (fun _ h_ => h_))); (case aB => exact (zB HB)); (case aF => exact (fun _ _ => trivial)); (case aO => exact (by refine sM ?_; exact Kd.dF nJ.out (fun k_ hk => ⟨trivial, fun e_ => hk e_⟩))); (case aS => exact (aJ (zB HB))); (case aL => have := abL.out; omega); intro aDg w52 ho hb hg hat; rw [← aqV.out] at ho; have aqW := zA (ho); replace gY := zA (bZ (g := Gj) (o := .cells #[.int .i64 au, .slice aZ ah.length aW] 24 (0, 0)) (zK gY) hg (Kd.Oa nJ.out gY.out (by decide))); replace HB := zA (hb); clear nJ fA; clear ho hb hg hat)); go_roundg k3
                     case measure => have := iU.out; have := mo.out; have := wO.out; omega
                     case rel => exact ⟨(aqU), (wrap64 (oM + 1)), zv, H', ⟨by have := iU.out; have := mo.out; have := wO.out; omega⟩, ⟨zS aqW⟩, ⟨zK gY⟩, ⟨zB HB⟩⟩
                   · rw [if_neg c49] at H; exact absurd H (by simp)
             · replace c42 := Bool.eq_false_iff.mpr c42; subst c42; rw [if_neg (show ¬ (false = true) by decide)] at H; have H' := zA H; clear H; go_wp2; go_roundg k3
               case measure => have := iU.out; have := mo.out; have := wO.out; omega
               case rel => exact ⟨(LJ), (wrap64 (oM + 1)), zv, H', ⟨by have := iU.out; have := mo.out; have := wO.out; omega⟩, ⟨by refine sM ?_; exact Kd.dF nJ.out (fun _ hk => trivial)⟩, ⟨zK gY⟩, ⟨zB HB⟩⟩
       · rw [if_neg c20] at H; have Fx := decide_eq_false c20; clear c20; obtain rfl := Option.some.inj H; obtain ⟨_, _, _, _⟩ := iG gY; go_wp2; go_ret; exact ⟨_, ze, by refine sM ?_; exact nJ.out, zB HB⟩
mutual
def ak.j0 : Nat → List Int → Int → Bool → Int → List (aD) → Option (List Int × (List (aD)) × (List (List (aD))) × Int)
 | 0, _, _, _, _, _ => none
 | k + 1, x1, x2, x33, afq, afr => if x33 = true then (some (([] : List Int), ([] : List (aD)), ([] : List (List (aD))), 9)) else (if ([] : List Int).length + x1.length < 17592186044416 then ((av.f k afq afr x1 x2).bind fun iT => (ak.l0 k x1 0 (([] : List Int) ++ x1) ([] : List (aD)) iT)) else (none))
def ak.l0 : Nat → List Int → Int → List Int → List (aD) → List (List (aD)) → Option (List Int × (List (aD)) × (List (List (aD))) × Int)
 | 0, _, _, _, _, _ => none
 | k + 1, x1, yJ, zl, xH, rG => if yJ < (rG.length : Int) then (if 0 ≤ yJ then (if 0 < ((bC rG yJ).length : Int) then (ak.l1 k x1 yJ (bC rG yJ) 0 zl xH rG ((aa (bC rG yJ) 0).f0) ((aa (bC rG yJ) 0).f1)) else (none)) else (none)) else (some (zl, xH, rG, 0))
def ak.l1 : Nat → List Int → Int → List (aD) → Int → List Int → List (aD) → List (List (aD)) → Int → Int → Option (List Int × (List (aD)) × (List (List (aD))) × Int)
 | 0, _, _, _, _, _, _, _, _, _ => none
 | k + 1, x1, yJ, xg, wo, zl, xH, rG, JY, JZ => if wo < (xg.length : Int) then (if (xg.length : Int) > 1 then (if 0 ≤ wo then (if 0 < (x1.length : Int) then (if ((aa xg wo).f0) = (rd x1 0) then ((bM.f k x1 ((aa xg wo).f1)).bind fun alA => (if alA = true then (ak.l1 k x1 yJ xg (wrap64 (wo + 1)) zl xH rG JY JZ) else (ak.l1 k x1 yJ xg (wrap64 (wo + 1)) zl xH rG ((aa xg wo).f0) ((aa xg wo).f1)))) else (ak.l1 k x1 yJ xg (wrap64 (wo + 1)) zl xH rG JY JZ)) else (none)) else (none)) else (ak.l1 k x1 yJ xg (wrap64 (wo + 1)) zl xH rG JY JZ)) else (if xH.length < 8796093022208 then (ak.l0 k x1 (wrap64 (yJ + 1)) zl (xH ++ [(⟨JY, JZ⟩ : aD)]) rG) else (none))
end
def ak.f (k : Nat) (au : Int) (ah : List (aD)) (l1 : List Int) (a2 : Int) : Option (List Int × (List (aD)) × (List (List (aD))) × Int) := (bI.f k au ah l1 a2).bind fun Il => (if Il = 0 then (if (l1.length : Int) = 0 then (if a2 = 2 then (ak.j0 k l1 a2 (decide (au > 0)) au ah) else (ak.j0 k l1 a2 false au ah)) else (ak.j0 k l1 a2 false au ah)) else (some (([] : List Int), ([] : List (aD)), ([] : List (List (aD))), Il)))
def ak.T6 : Bool × List (List Nat × List Nat) := (true, [([], []), ([0], [0]), ([], []), ([], []), ([], []), ([2, 3, 4, 1], [2, 3, 4]), ([1, 5], [1, 5]), ([], []), ([7, 6, 5, 0, 1, 2, 3, 4, 5, 6, 7], [6, 7])])
def ak.B6 : List Nat := [0, 1, 0, 0, 0, 31, 63, 0, 255]
theorem ak.avW : oO .any (opsOf Tryd.f14 6) = ak.T6 := by kernel_rfl
theorem ak.aqX : lD ak.T6.2 ak.B6 = true := by kernel_rfl
def ak.T15 : Bool × List (List Nat × List Nat) := (true, [([], []), ([0], [0]), ([1], [1]), ([2], [2]), ([3], [3]), ([3], [3]), ([4, 5, 3], [3, 4, 5]), ([6, 3], [3, 6]), ([7, 3], [3, 7]), ([3], [3]), ([9, 3], [3, 9]), ([10, 3], [3, 10]), ([8, 11, 3], [3, 8, 11]), ([3, 12], [3, 12]), ([13, 3], [13]), ([14], [14]), ([14], [14]), ([14], [14]), ([16, 17, 14], [14, 16, 17]), ([18, 14], [14, 18]), ([19, 14], [14, 19]), ([15, 20, 14, 14], [14, 15, 20]), ([21, 14], [14, 21]), ([14, 22], [14, 22])])
def ak.B15 : List Nat := [0, 1, 3, 7, 15, 15, 63, 127, 255, 15, 527, 1551, 4095, 8191, 16383, 32767, 32767, 32767, 229375, 491519, 1015807, 2097151, 4194303, 8388607]
theorem ak.XF : oO .any (opsOf Tryd.f14 15) = ak.T15 := by kernel_rfl
theorem ak.Pw : lD ak.T15.2 ak.B15 = true := by kernel_rfl
theorem ak.calls (k : Nat) (au : Int) (aZ : Option Addr) (aW : Nat) (ah : List (aD)) (A1 : Option Addr) (c1 : Nat) (l1 : List Int) (a2 : Int) (r1 : List Int) (r2 : List (aD)) (r3 : List (List (aD))) (r4 : Int) (w : World) (eY : Kd.C gm w aZ ah.length ah) (eZ : ah.length ≤ aW) (hr1 : Kd.C (Kd.int .i64) w A1 l1.length l1) (hc1 : l1.length ≤ c1) (h : ak.f k au ah l1 a2 = some (r1, r2, r3, r4)) :
 Calls Tryd.prog 14 #[.agg #[.int .i64 au, .slice aZ ah.length aW], .slice A1 l1.length c1, .int .i64 a2] w fun e w' => ∃ Db C8 P9 : Value, e = .returned (.tuple #[.agg #[Db, C8, P9], .int .i64 r4]) ∧ Kd.R (Kd.int .i64) 3 w' w.heap.size (fun _ => True) Db r1 ∧ Kd.R gm 42 w' w.heap.size (fun _ => True) C8 r2 ∧ Kd.S (Kd.slice 42 gm) 22 w' w.heap.size (fun k_ => some k_ ≠ (C8 : Value).ownBlock) P9 r3 ∧ Below w.heap.size w w' := by
 have uk := Tryd.underlying24; have Mo := Tryd.underlying28; have wV := Tryd.underlying42; have cz := zA eY; have dX := zA eZ; clear eY eZ; have HR1 := zA hr1; have rX := zA hc1; clear hr1 hc1; have HB := zA (Below.refl w.heap.size w); have H : ((bI.f k au ah l1 a2).bind fun Il => (if Il = 0 then (if (l1.length : Int) = 0 then (if a2 = 2 then (ak.j0 k l1 a2 (decide (au > 0)) au ah) else (ak.j0 k l1 a2 false au ah)) else (ak.j0 k l1 a2 false au ah)) else (some (([] : List Int), ([] : List (aD)), ([] : List (List (aD))), Il)))) = some (r1, r2, r3, r4) := h; clear h; replace H := zE H; obtain ⟨Il, A4, H⟩ := H; (try dsimp only at H); by_cases c5 : Il = 0
 · rw [if_pos c5] at H; have pM : (Il == 0) = true := beq_iff_eq.mpr c5; have yh : (Il != 0) = false := bne_eq_false_iff_eq.mpr c5; clear c5; have HC6 := zA H; clear H; go_enter Tryd.func14, Tryd.ntmps14; go_upto_region 4 with (first | ((with_reducible refine aH (N := 3) rfl ?_); refine zX (N := 3) (cs := #[.int .i64 au, .slice aZ ah.length aW]) (t := 24) ?_; intro uE hg w7 aG hb; have eH := zA (aG); have aqY := zA (zW hg HB); have aqZ := zA (zW hg HB); replace HB := zA (af (zB HB) hb); clear hb aG hg) | ((with_reducible refine aH (N := 6) rfl ?_); refine zX (N := 6) (cs := #[.slice none 0 0, .slice none 0 0, .slice none 0 0]) (t := 28) ?_; intro qw hg w8 aG hb; have gq := zA (aG); have aq0 := zA (zW hg HB); have aq1 := zA (zW hg HB); have xU := zA (lZ hg eH); have xV := zA (l5 hg eH); replace eH := zA (dn eH hb); replace HB := zA (af (zB HB) hb); clear hb aG hg; have ai7 := xU.out; have ai8 := xV.out; obtain ⟨_, _, _, _⟩ := iG eH) | ((with_reducible refine ay (f := 32) rfl ?_); refine zG (some 17) rfl Tryd.func32 #[.agg #[.int .i64 au, .slice aZ ah.length aW], .slice A1 l1.length c1, .int .i64 a2] ?_; (with_reducible refine (bI.calls k au _ _ ah _ _ l1 a2 Il _ ?aI ?aN ?bS ?bT A4.out).mono ?_); (case aI => exact jB cz HB); (case aN => exact dX.out); (case bS => exact jB HR1 HB); (case bT => exact rX.out); rintro e QE ⟨rfl, hb⟩; refine ⟨_, rfl, ?_⟩; replace eH := zA (dn eH hb); replace gq := zA (dn gq hb); replace HB := zA (af (zB HB) hb)))
   (try simp only [Act.put, List.setIfInBounds_toArray, List.set_cons_zero, List.set_cons_succ]); go_cut [33] (fun v33 wc => ∃ (kq : Nat) (XG : Bool), v33 = .bool XG ∧ ag (ak.j0 kq l1 a2 XG au ah = some (r1, r2, r3, r4)) ∧ ag (kq ≤ k) ∧ ag (wc.heap[uE]? = some (.cells #[.int .i64 au, (.slice aZ ah.length aW)] 24 (0, 0))) ∧ ag (wc.heap[qw]? = some (.cells #[(.slice none 0 0), (.slice none 0 0), (.slice none 0 0)] 28 (0, 0))) ∧ ag (Below w.heap.size w wc))
   case first =>
    have H := HC6.out; clear HC6; by_cases c12 : (l1.length : Int) = 0
    · rw [if_pos c12] at H; have Aj : ((l1.length : Int) == 0) = true := beq_iff_eq.mpr c12; have aq2 : ((l1.length : Int) != 0) = false := bne_eq_false_iff_eq.mpr c12; clear c12; (first | rw [Aj] | (simp only [nE, qJ]; rw [Aj]) | skip); by_cases c13 : a2 = 2
      · rw [if_pos c13] at H; have RU : (a2 == 2) = true := beq_iff_eq.mpr c13; have acY : (a2 != 2) = false := bne_eq_false_iff_eq.mpr c13; clear c13; have H' := zA H; clear H; have Kq := xU.out; have Kr := xV.out; obtain ⟨_, _, _, _⟩ := iG eH; go_wp2; go_meet
        case rel => exact ⟨_, (decide (au > 0)), zv, H', ⟨by first | omega | exact Nat.le_refl _⟩, ⟨zK eH⟩, ⟨zK gq⟩, ⟨zB HB⟩⟩
      · rw [if_neg c13] at H; have RU : (a2 == 2) = false := beq_eq_false_iff_ne.mpr c13; have acY : (a2 != 2) = true := bne_iff_ne.mpr c13; have H' := zA H; clear H; go_wp2; go_meet
        case rel => exact ⟨_, (false), zv, H', ⟨by first | omega | exact Nat.le_refl _⟩, ⟨zK eH⟩, ⟨zK gq⟩, ⟨zB HB⟩⟩
    · rw [if_neg c12] at H; have Aj : ((l1.length : Int) == 0) = false := beq_eq_false_iff_ne.mpr c12; have aq2 : ((l1.length : Int) != 0) = true := bne_iff_ne.mpr c12; have aAf : ¬ (l1 = []) := fun h_ => c12 (by rw [h_]; rfl)
      (first | rw [Aj] | (simp only [nE, qJ]; rw [Aj]) | skip); have H' := zA H; clear H; go_wp2; go_meet
      case rel => exact ⟨_, (false), zv, H', ⟨by first | omega | exact Nat.le_refl _⟩, ⟨zK eH⟩, ⟨zK gq⟩, ⟨zB HB⟩⟩
   case rest =>
    clear HC6
    obtain ⟨kq, XG, rfl, HA, ZE, eH, gq, HB⟩ := hcut; cases kq with
    | zero => exact absurd HA.out (by simp [ak.j0])
    | succ Y8 =>
     have H := HA.out; clear HA; simp only [ak.j0] at H; by_cases c16 : XG = true
     · subst c16; rw [if_pos rfl] at H; simp only [Option.some.injEq, Prod.mk.injEq] at H; obtain ⟨rfl, rfl, rfl, rfl⟩ := H; have Xn := xV.out; have Xo := xU.out; obtain ⟨_, _, _, _, _, _⟩ := nG gq; go_wp2; refine bodyPost_ret (iw rfl _ _ qw 28 #[.slice none 0 0, .slice none 0 0, .slice none 0 0] (0, 0) _ rfl (by refine zk ?_; refine aV (cs := #[.slice none 0 0, .slice none 0 0, .slice none 0 0]) ?_ 2 _ rfl; refine zk ?_; refine aV (cs := #[.slice none 0 0, .slice none 0 0, .slice none 0 0]) ?_ 1 _ rfl; refine zk ?_; refine aV (cs := #[.slice none 0 0, .slice none 0 0, .slice none 0 0]) ?_ 0 _ rfl; refine zk ?_; exact gq.out) Tryd.underlying28 rfl (by kernel_rfl)) rfl ?_; exact ⟨_, _, _, ze, Ab, Ab, Ab, zB HB⟩
     · replace c16 := Bool.eq_false_iff.mpr c16; subst c16; rw [if_neg (show ¬ (false = true) by decide)] at H; by_cases c19 : ([] : List Int).length + l1.length < 17592186044416
       · rw [if_pos c19] at H; have ahX := zA c19; clear c19; obtain ⟨u6, SG⟩ : ∃ y_ : List Int, y_ = (([] : List Int) ++ l1) := ⟨_, rfl⟩; replace H : ((av.f Y8 au ah l1 a2).bind fun iT => (ak.l0 Y8 l1 0 u6 ([] : List (aD)) iT)) = some (r1, r2, r3, r4) := by first | (rw [SG]; with_reducible exact H) | (have iW := (Option.bind_some _ _).symm.trans H; rw [SG]; with_reducible exact iW) | (have iW := (Option.bind_some _ _).symm.trans H; with_reducible exact iW) | with_reducible exact H | (rw [SG]; exact H) | exact H
         have ahY := zA SG; clear SG; replace H := zE H; obtain ⟨iT, A20, H⟩ := H; (try dsimp only at H); have H' := zA H; clear H; try go_wp2
         replace eH := zA (bO eH.out); replace gq := zA (bO gq.out); replace HB := zA (bn HB.out); refine EJ (n := 9) (S := fun w' => w'.cell? ⟨uE, 0, none⟩ = some (.int .i64 au) ∧ w'.cell? ⟨uE, 1, none⟩ = some (.slice aZ ah.length aW)) (ds := []) ak.avW ak.aqX ⟨(ai eH.out 0).trans rfl, (ai eH.out 1).trans rfl⟩ (fun hHeld qd DY => ?_); generalize wc.drew = w21 at eH gq HB hHeld ⊢; refine zp 0 ?_; refine zp 3 ?_; refine zp 4 ?_; refine zt 2 ?_; refine Cb (σ := Value × Value × Nat) 1 #[true, true, true, true, true, true, true, true, false] (fun s_ => [(36, s_.1), (40, s_.2.1), (9, .pointer (some ⟨s_.2.2, 0, none⟩)), (41, .agg #[s_.1, .slice none 0 0, s_.2.1])]) (fun s_ w' => (w'.cell? ⟨uE, 0, none⟩ = some (.int .i64 au) ∧ w'.cell? ⟨uE, 1, none⟩ = some (.slice aZ ah.length aW)) ∧ (Kd.R (Kd.int .i64) 3 w' w.heap.size (fun _ => True) s_.1 u6) ∧ (Kd.S (Kd.slice 42 gm) 22 w' w.heap.size (fun _ => True) s_.2.1 iT) ∧ (w'.heap[uE]? = some (.cells #[.int .i64 au, .slice aZ ah.length aW] 24 (0, 0))) ∧ (w'.heap[qw]? = some (.cells #[.slice none 0 0, .slice none 0 0, .slice none 0 0] 28 (0, 0))) ∧ (w'.heap[s_.2.2]? = some (.cells #[.slice none 0 0, .slice none 0 0, .slice none 0 0] 28 (0, 0))) ∧ (w.heap.size ≤ s_.2.2) ∧ (w.heap.size ≤ s_.2.2) ∧ (uE ≠ s_.2.2) ∧ (s_.2.2 ≠ uE) ∧ (qw ≠ s_.2.2) ∧ (s_.2.2 ≠ qw) ∧ (Below w.heap.size w w')) ?_ ?_; rotate_left
         · intro vU; refine Ke (i := 1) (j := 7) (Ni := some 36) (Nj := some 9) #[true, true, true, true, true, false, false, false, false] #[true, false, true, true, true, false, false, true, false] rfl rfl rfl rfl (wB qd.out (by kernel_rfl)) (by decide) (by decide) (fun K hK => ?_) (fun K hK => ?_)
           · refine Kd.jZ (Kd.int .i64) (w0 := w) w.heap.size (by rfl) (.const (.slice none 0 0)) (.tmp 35) 25 3 (.int .i64 0) 8 rfl Tryd.underlying25 info3 rfl (by decide) (by omega) (.slice none 0 0) ([] : List Int) l1 _ _ _ (fun _ => True) (fun _ => False) rfl rfl ?aO ?aR (fun _ _ h => h) (fun _ h => h.elim) ?aF ?aB ?aS ?aL ?_; (case aR => repeat (first | exact (Kd.bu HR1.out HB.out) | (with_reducible refine Kd.dY ?_ _) | (with_reducible refine Kd.dZ ?_ _) | (with_reducible refine Kd.fB ?_))); (case aB => exact (zB HB)); (case aF => exact (fun _ _ => trivial)); (case aO => exact ((Kd.wJ _ _ _ _ (fun _ => True)))); (case aS => exact (aJ (zB HB))); (case aL => have := ahX.out; omega); intro alB w22 ho hb hg hat; rw [← ahY.out] at ho; have tQ := zA (ho); replace eH := zA (bZ (g := uE) (o := .cells #[.int .i64 au, .slice aZ ah.length aW] 24 (0, 0)) (zK eH) hg (by simp [Value.ownBlock])); replace gq := zA (bZ (g := qw) (o := .cells #[.slice none 0 0, .slice none 0 0, .slice none 0 0] 28 (0, 0)) (zK gq) hg (by simp [Value.ownBlock])); replace HB := zA (hb); clear ho hb hg hat; refine hK.out _ _ ⟨(ai eH.out 0).trans rfl, (ai eH.out 1).trans rfl⟩ (fun hHeld => ?_); clear hK K; refine qp 36 ?_; refine Ke (i := 5) (j := 7) (Ni := some 40) (Nj := some 9) #[true, true, true, true, true, true, false, false, false] #[true, true, true, true, true, false, false, true, false] rfl rfl rfl rfl (wB qd.out (by kernel_rfl)) (by decide) (by decide) (fun K hK => ?_) (fun K hK => ?_)
             · refine lu Tryd.func33 (by kernel_rfl) rfl #[.agg #[.int .i64 au, .slice aZ ah.length aW], .slice A1 l1.length c1, .int .i64 a2] (by rfl) rfl rfl Cc ?_; with_reducible refine (av.calls Y8 au _ _ ah _ _ l1 a2 iT _ ?aI ?aN ?bS ?bT A20.out).mono ?_
               (case aI => exact jB cz HB); (case aN => exact dX.out); (case bS => exact jB HR1 HB); (case bT => exact rX.out); rintro e w23 ⟨afs, rfl, ho0, hb⟩; refine ⟨_, rfl, ?_⟩; have Bb := zA (Kd.pI ho0 (aJ (zB HB))); replace tQ := zA (Kd.bf (zR tQ) hb); replace eH := zA (dn eH hb); replace gq := zA (dn gq hb); replace HB := zA (af (zB HB) hb); obtain ⟨Mj, KQ, ⟨⟩⟩ := Ce (Kd.kX Bb.out); obtain ⟨Cv, Aq, ⟨⟩⟩ := Ce (Kd.bD tQ.out); refine hK.out _ _ ⟨(ai eH.out 0).trans rfl, (ai eH.out 1).trans rfl⟩ (fun hHeld => ?_); clear hK K; refine qp 40 ?_; refine zp 6 ?_; refine wU 7 (fun K hK => ?_); refine pK ?hg (N := 9) ?hd (cs := #[.slice none 0 0, .slice none 0 0, .slice none 0 0]) (t := 28) ?hr ?_; (case hd => rfl); (case hg => rfl); (case hr => first | (go_simp; done) | (go_simp; rfl)); intro nV hg w26 aG hb; have jm := zA (aG); have NJ := zA (zW hg HB); have NK := zA (zW hg HB); have jw := zA (lZ hg eH); have oW := zA (l5 hg eH); have lY := zA (lZ hg gq); have oZ := zA (l5 hg gq); replace tQ := zA (Kd.bf (zR tQ) hb); replace Bb := zA (Kd.iY (zS Bb) hb); replace eH := zA (dn eH hb); replace gq := zA (dn gq hb); replace HB := zA (af (zB HB) hb); clear hb aG hg; refine hK.out _ _ ⟨(ai eH.out 0).trans rfl, (ai eH.out 1).trans rfl⟩ (fun hHeld => ?_); clear hK K; refine qp 9 ?_; exact Jm (vU (.slice Cv u6.length Aq, .slice Mj iT.length KQ, nV) _ ⟨hHeld, (zR tQ), (zS Bb), (zK eH), (zK gq), (zK jm), NJ.out, NK.out, jw.out, oW.out, lY.out, oZ.out, (zB HB)⟩)
             · refine pK ?hg (N := 9) ?hd (cs := #[.slice none 0 0, .slice none 0 0, .slice none 0 0]) (t := 28) ?hr ?_; (case hd => rfl); (case hg => rfl); (case hr => first | (go_simp; done) | (go_simp; rfl)); intro nV hg w23 aG hb; have jm := zA (aG); have NJ := zA (zW hg HB); have NK := zA (zW hg HB); have jw := zA (lZ hg eH); have oW := zA (l5 hg eH); have lY := zA (lZ hg gq); have oZ := zA (l5 hg gq); replace tQ := zA (Kd.bf (zR tQ) hb); replace eH := zA (dn eH hb); replace gq := zA (dn gq hb); replace HB := zA (af (zB HB) hb); clear hb aG hg; refine hK.out _ _ ⟨(ai eH.out 0).trans rfl, (ai eH.out 1).trans rfl⟩ (fun hHeld => ?_); clear hK K; refine qp 9 ?_; refine wU 5 (fun K hK => ?_); refine lu Tryd.func33 (by kernel_rfl) rfl #[.agg #[.int .i64 au, .slice aZ ah.length aW], .slice A1 l1.length c1, .int .i64 a2] (by rfl) rfl rfl Cc ?_; with_reducible refine (av.calls Y8 au _ _ ah _ _ l1 a2 iT _ ?aI ?aN ?bS ?bT A20.out).mono ?_
               (case aI => exact jB cz HB); (case aN => exact dX.out); (case bS => exact jB HR1 HB); (case bT => exact rX.out); rintro e w24 ⟨afs, rfl, ho0, hb⟩; refine ⟨_, rfl, ?_⟩; have Bb := zA (Kd.pI ho0 (aJ (zB HB))); replace tQ := zA (Kd.bf (zR tQ) hb); replace eH := zA (dn eH hb); replace gq := zA (dn gq hb); replace jm := zA (dn jm hb); replace HB := zA (af (zB HB) hb); obtain ⟨Cv, Aq, ⟨⟩⟩ := Ce (Kd.kX Bb.out); obtain ⟨FC, FD, ⟨⟩⟩ := Ce (Kd.bD tQ.out); refine hK.out _ _ ⟨(ai eH.out 0).trans rfl, (ai eH.out 1).trans rfl⟩ (fun hHeld => ?_); clear hK K; refine qp 40 ?_; refine zp 6 ?_; exact Jm (vU (.slice FC u6.length FD, .slice Cv iT.length Aq, nV) _ ⟨hHeld, (zR tQ), (zS Bb), (zK eH), (zK gq), (zK jm), NJ.out, NK.out, jw.out, oW.out, lY.out, oZ.out, (zB HB)⟩)
           · refine pK ?hg (N := 9) ?hd (cs := #[.slice none 0 0, .slice none 0 0, .slice none 0 0]) (t := 28) ?hr ?_; (case hd => rfl); (case hg => rfl); (case hr => first | (go_simp; done) | (go_simp; rfl)); intro nV hg w22 aG hb; have jm := zA (aG); have NJ := zA (zW hg HB); have NK := zA (zW hg HB); have jw := zA (lZ hg eH); have oW := zA (l5 hg eH); have lY := zA (lZ hg gq); have oZ := zA (l5 hg gq); replace eH := zA (dn eH hb); replace gq := zA (dn gq hb); replace HB := zA (af (zB HB) hb); clear hb aG hg; refine hK.out _ _ ⟨(ai eH.out 0).trans rfl, (ai eH.out 1).trans rfl⟩ (fun hHeld => ?_); clear hK K; refine qp 9 ?_; refine wU 1 (fun K hK => ?_); refine Kd.jZ (Kd.int .i64) (w0 := w) w.heap.size (by rfl) (.const (.slice none 0 0)) (.tmp 35) 25 3 (.int .i64 0) 8 rfl Tryd.underlying25 info3 rfl (by decide) (by omega) (.slice none 0 0) ([] : List Int) l1 _ _ _ (fun _ => True) (fun _ => False) rfl rfl ?aO ?aR (fun _ _ h => h) (fun _ h => h.elim) ?aF ?aB ?aS ?aL ?_; (case aR => repeat (first | exact (Kd.bu HR1.out HB.out) | (with_reducible refine Kd.dY ?_ _) | (with_reducible refine Kd.dZ ?_ _) | (with_reducible refine Kd.fB ?_))); (case aB => exact (zB HB)); (case aF => exact (fun _ _ => trivial)); (case aO => exact ((Kd.wJ _ _ _ _ (fun _ => True)))); (case aS => exact (aJ (zB HB))); (case aL => have := ahX.out; omega); intro alB w23 ho hb hg hat; rw [← ahY.out] at ho; have tQ := zA (ho); replace eH := zA (bZ (g := uE) (o := .cells #[.int .i64 au, .slice aZ ah.length aW] 24 (0, 0)) (zK eH) hg (by simp [Value.ownBlock])); replace gq := zA (bZ (g := qw) (o := .cells #[.slice none 0 0, .slice none 0 0, .slice none 0 0] 28 (0, 0)) (zK gq) hg (by simp [Value.ownBlock])); replace jm := zA (bZ (g := nV) (o := .cells #[.slice none 0 0, .slice none 0 0, .slice none 0 0] 28 (0, 0)) (zK jm) hg (by simp [Value.ownBlock])); replace HB := zA (hb); clear ho hb hg hat; refine hK.out _ _ ⟨(ai eH.out 0).trans rfl, (ai eH.out 1).trans rfl⟩ (fun hHeld => ?_); clear hK K; refine qp 36 ?_; refine wU 5 (fun K hK => ?_); refine lu Tryd.func33 (by kernel_rfl) rfl #[.agg #[.int .i64 au, .slice aZ ah.length aW], .slice A1 l1.length c1, .int .i64 a2] (by rfl) rfl rfl Cc ?_; with_reducible refine (av.calls Y8 au _ _ ah _ _ l1 a2 iT _ ?aI ?aN ?bS ?bT A20.out).mono ?_
             (case aI => exact jB cz HB); (case aN => exact dX.out); (case bS => exact jB HR1 HB); (case bT => exact rX.out); rintro e w24 ⟨afs, rfl, ho0, hb⟩; refine ⟨_, rfl, ?_⟩; have Bb := zA (Kd.pI ho0 (aJ (zB HB))); replace tQ := zA (Kd.bf (zR tQ) hb); replace eH := zA (dn eH hb); replace gq := zA (dn gq hb); replace jm := zA (dn jm hb); replace HB := zA (af (zB HB) hb); obtain ⟨Cv, Aq, ⟨⟩⟩ := Ce (Kd.kX Bb.out); obtain ⟨FC, FD, ⟨⟩⟩ := Ce (Kd.bD tQ.out); refine hK.out _ _ ⟨(ai eH.out 0).trans rfl, (ai eH.out 1).trans rfl⟩ (fun hHeld => ?_); clear hK K; refine qp 40 ?_; refine zp 6 ?_; exact Jm (vU (.slice FC u6.length FD, .slice Cv iT.length Aq, nV) _ ⟨hHeld, (zR tQ), (zS Bb), (zK eH), (zK gq), (zK jm), NJ.out, NK.out, jw.out, oW.out, lY.out, oZ.out, (zB HB)⟩)
         rintro ⟨alB, afs, nV⟩ Zk ⟨EW, Df, Dg, Dh, Di, KL, M7, M8, M9, Na, Q0, Fp, Q4⟩; have tQ : ag (Kd.R (Kd.int .i64) 3 Zk w.heap.size (fun _ => True) alB u6) := ⟨Df⟩; have Bb : ag (Kd.S (Kd.slice 42 gm) 22 Zk w.heap.size (fun _ => True) afs iT) := ⟨Dg⟩; have jm : ag (Zk.heap[nV]? = some (.cells #[.slice none 0 0, .slice none 0 0, .slice none 0 0] 28 (0, 0))) := ⟨KL⟩; have NJ : ag (w.heap.size ≤ nV) := ⟨M7⟩; have NK : ag (w.heap.size ≤ nV) := ⟨M8⟩; have jw : ag (uE ≠ nV) := ⟨M9⟩; have oW : ag (nV ≠ uE) := ⟨Na⟩; have lY : ag (qw ≠ nV) := ⟨Q0⟩; have oZ : ag (nV ≠ qw) := ⟨Fp⟩; replace eH : ag (Zk.heap[uE]? = some (.cells #[.int .i64 au, .slice aZ ah.length aW] 24 (0, 0))) := ⟨Dh⟩; replace gq : ag (Zk.heap[qw]? = some (.cells #[.slice none 0 0, .slice none 0 0, .slice none 0 0] 28 (0, 0))) := ⟨Di⟩; replace HB : ag (Below w.heap.size w Zk) := ⟨Q4⟩; clear Df Dg Dh Di KL M7 M8 M9 Na Q0 Fp Q4; have hHeld : Zk.cell? ⟨uE, 0, none⟩ = some (.int .i64 au) ∧ Zk.cell? ⟨uE, 1, none⟩ = some (.slice aZ ah.length aW) := EW; obtain ⟨FE, Cx, ⟨⟩⟩ := Ce (Kd.kX Bb.out); obtain ⟨tZ, uf, ⟨⟩⟩ := Ce (Kd.bD tQ.out); refine ZC ?_; refine wU 8 (fun K hK => ?_); have aDj := zc jm 0; have aAg := bU jm.out 0; have as5 := jw.out; have as6 := lY.out; have as7 := oW.out; have as8 := oZ.out; have aDk := zc jm 1; have aAh := bU jm.out 1; have as9 := jw.out; have ata := lY.out; have atb := oW.out; have atc := oZ.out; have avF := zc jm 2; have aqs := bU jm.out 2; have aff := jw.out; have afg := lY.out; have afh := oW.out; have afi := oZ.out; refine IU (w1 := ?_) (by rfl) rfl ?_ ?_; rotate_left; · go_simp; rfl
         refine hK.out _ _ ⟨((cell_far (p := ⟨nV, _, none⟩) jw.out _).trans (((cell_far (p := ⟨nV, _, none⟩) jw.out _).trans (((cell_far (p := ⟨nV, _, none⟩) jw.out _).trans (hHeld.1)))))), ((cell_far (p := ⟨nV, _, none⟩) jw.out _).trans (((cell_far (p := ⟨nV, _, none⟩) jw.out _).trans (((cell_far (p := ⟨nV, _, none⟩) jw.out _).trans (hHeld.2))))))⟩ (fun hHeld => ?_); clear hK K; refine lK (iZ qd.out (by kernel_rfl)) ?_; try go_wp2
         go_loopg [10] Y8 (fun kq v10 w' => ∃ (gJ : Int) (om : List (aD)) (vK : Value), v10 = .int .i64 gJ ∧ ag (ak.l0 kq l1 gJ u6 om iT = some (r1, r2, r3, r4)) ∧ ag (kq ≤ Y8) ∧ ag (Kd.R (Kd.int .i64) 3 w' w.heap.size (fun _ => True) (.slice tZ u6.length uf) u6) ∧ ag (Kd.R gm 42 w' w.heap.size (fun _ => True) vK om) ∧ ag (Kd.S (Kd.slice 42 gm) 22 w' w.heap.size (fun k_ => some k_ ≠ (vK : Value).ownBlock) (.slice FE iT.length Cx) iT) ∧ ag (w'.heap[uE]? = some (.cells #[.int .i64 au, (.slice aZ ah.length aW)] 24 (0, 0))) ∧ ag (w'.heap[qw]? = some (.cells #[(.slice none 0 0), (.slice none 0 0), (.slice none 0 0)] 28 (0, 0))) ∧ ag (w'.heap[nV]? = some (.cells #[(.slice tZ u6.length uf), vK, (.slice FE iT.length Cx)] 28 (0, 0))) ∧ ag (Below w.heap.size w w'))
         case atStart => exact ⟨(0), (([] : List (aD))), (.slice none 0 0), zv, H', ⟨Nat.le_refl _⟩, ⟨by refine jF ?_; exact Kd.aQ (Kd.aT (p := ⟨nV, 2, none⟩) (Kd.aT (p := ⟨nV, 1, none⟩) (Kd.aT (p := ⟨nV, 0, none⟩) (Kd.bJ tQ.out jm.out (by decide)) (fun _ hk => hk.2) (.slice tZ u6.length uf)) (fun _ hk => hk.2) (.slice none 0 0)) (fun _ hk => hk.2) (.slice FE iT.length Cx)) (fun _ hk => trivial)⟩, ⟨Ab⟩, ⟨by refine sM ?_; exact Kd.dF (Kd.eB (p := ⟨nV, 2, none⟩) (Kd.eB (p := ⟨nV, 1, none⟩) (Kd.eB (p := ⟨nV, 0, none⟩) (Kd.jY Bb.out jm.out (by decide)) (fun _ hk => hk.2) (.slice tZ u6.length uf)) (fun _ hk => hk.2) (.slice none 0 0)) (fun _ hk => hk.2) (.slice FE iT.length Cx)) (fun _ hk => (by simp [Value.ownBlock]))⟩, ⟨by refine iA jw.out ?_; refine iA jw.out ?_; refine iA jw.out ?_; refine zk ?_; exact eH.out⟩, ⟨by refine iA lY.out ?_; refine iA lY.out ?_; refine iA lY.out ?_; refine zk ?_; exact gq.out⟩, ⟨by refine zk ?_; refine aV (cs := #[.slice tZ u6.length uf, .slice none 0 0, .slice none 0 0]) ?_ 2 _ rfl; refine zk ?_; refine aV (cs := #[.slice tZ u6.length uf, .slice none 0 0, .slice none 0 0]) ?_ 1 _ rfl; refine zk ?_; refine aV (cs := #[.slice none 0 0, .slice none 0 0, .slice none 0 0]) ?_ 0 _ rfl; refine zk ?_; exact jm.out⟩, ⟨zB HB⟩⟩
         case round =>
          clear H'
          obtain ⟨gJ, om, vK, rfl, HA, mo, jc, gK, iq, eH, gq, jm, HB⟩ := hrel; cases gk with
          | zero => exact absurd HA.out (by simp [ak.l0])
          | succ k2 =>
           have H := HA.out; clear HA; simp only [ak.l0] at H; by_cases Cj : gJ < (iT.length : Int)
           · rw [if_pos Cj] at H; have I9 := decide_eq_true Cj; clear Cj; by_cases c34 : 0 ≤ gJ
             · rw [if_pos c34] at H; have KD := decide_eq_true c34; clear c34; by_cases Fa : 0 < ((bC iT gJ).length : Int)
               · rw [if_pos Fa] at H; have an8 := decide_eq_true Fa; have aAi : decide (0 < (bC iT gJ).length) = true := decide_eq_true (by omega); clear Fa; have H' := zA H; clear H; have Wd := oW.out; have We := jw.out; have aaN := oZ.out; have aaO := lY.out; obtain ⟨_, _, _, _, _, _⟩ := nG jm; have aft : 0 ≤ (gJ : Int) := zo; have afu : gJ < (iT.length : Int) := zo; obtain ⟨XH, avY, avZ, av0, afv, XI, XJ⟩ := Ec (Kd.jO iq.out).2.2 gJ aft afu; cases av0; obtain ⟨aAj, alC, alD, acZ⟩ := Kd.ZX iq.out [] gJ aft (by first | exact afu | exact zo | (have e_ := (Kd.jO iq.out).1; omega)); obtain ⟨atd, rfl, Px⟩ := alD; have Gp := acZ 0 _ rfl; rw [Nat.add_zero, show ((Kd.slice 42 gm)).sz = 1 from rfl, Nat.mul_one] at Gp; replace Gp := Option.some.inj (Gp.symm.trans afv); rw [Gp] at Px; have Py := zA (show Kd.R gm 42 _ _ _ _ (bC iT gJ) from Px); clear Gp Px; clear acZ alC; have jG := zA XJ; have ate := zA XI; clear XJ XI; replace aft := eq_true aft; replace afu := eq_true afu; have alE : 0 ≤ (0 : Int) := (by omega); have alF : 0 < ((bC iT gJ).length : Int) := zo; obtain ⟨rq, av1, Pz, PD⟩ := eG (zC jG) 0 alE alF; cases av1; have alG := zA (Kd.atu jG.out (by omega) (by decide)); have aAk : (0 < (bC iT gJ).length) = True := eq_true (by omega); (try rw [show ((0 : Int)).toNat = 0 from rfl] at Pz); (try rw [show 0 * 2 = 0 from rfl] at Pz); (try rw [Addr.add_zero'] at Pz); (try rw [show ((0 : Int)).toNat = 0 from rfl] at PD); (try rw [show 0 * 2 = 0 from rfl] at PD); (try rw [Addr.add_zero'] at PD); replace alE := eq_true alE; replace alF := eq_true alF; go_wp2_with (first | ((with_reducible refine aH (N := 12) rfl ?_); refine zX (N := 12) (cs := #[.int .i64 0, .int .i64 0]) (t := 42) ?_; intro oF hg w39 aG hb; have qg := zA (aG); have aAl := zA (zW hg HB); have aAm := zA (zW hg HB); have vk := zA (lZ hg eH); have Im := zA (l5 hg eH); have vo := zA (lZ hg gq); have Io := zA (l5 hg gq); have vv := zA (lZ hg jm); have Ip := zA (l5 hg jm); replace jc := zA (Kd.bf (zR jc) hb); replace gK := zA (Kd.bf (Kd.EP (zR gK) oF (Nat.le_of_eq hg.symm)) hb); replace iq := zA (Kd.iY (Kd.zY (zS iq) oF (Nat.le_of_eq hg.symm)) hb); replace Py := zA (Kd.bf (Kd.EP (zR Py) oF (Nat.le_of_eq hg.symm)) hb); replace eH := zA (dn eH hb); replace gq := zA (dn gq hb); replace jm := zA (dn jm hb); replace jG := zA (Kd.bu (zC jG) hb); replace HB := zA (af (zB HB) hb); have ADN := zA (show rq.block ≠ oF from (by rw [hg]; exact Nat.ne_of_lt alG.out)); clear hb aG hg; have abz := Im.out; have abA := vk.out; have agL := Io.out; have agM := vo.out; have Rm := Ip.out; have Rn := vv.out; obtain ⟨_, _, _, _⟩ := iG qg)); go_loopg [13] k2 (fun kq v13 w' => ∃ (gG : Int) (oo : Int) (nk : Int), v13 = .int .i64 gG ∧ ag (ak.l1 kq l1 gJ (bC iT gJ) gG u6 om iT oo nk = some (r1, r2, r3, r4)) ∧ ag (kq ≤ k2) ∧ ag (Kd.R (Kd.int .i64) 3 w' w.heap.size (fun _ => True) (.slice tZ u6.length uf) u6) ∧ ag (Kd.R gm 42 w' w.heap.size (fun k_ => k_ ≠ oF) vK om) ∧ ag (Kd.S (Kd.slice 42 gm) 22 w' w.heap.size (fun k_ => some k_ ≠ (vK : Value).ownBlock ∧ k_ ≠ oF) (.slice (some XH) iT.length Cx) iT) ∧ ag (w'.heap[uE]? = some (.cells #[.int .i64 au, (.slice aZ ah.length aW)] 24 (0, 0))) ∧ ag (w'.heap[qw]? = some (.cells #[(.slice none 0 0), (.slice none 0 0), (.slice none 0 0)] 28 (0, 0))) ∧ ag (w'.heap[nV]? = some (.cells #[(.slice tZ u6.length uf), vK, (.slice (some XH) iT.length Cx)] 28 (0, 0))) ∧ ag (w'.heap[oF]? = some (.cells #[.int .i64 oo, .int .i64 nk] 42 (0, 0))) ∧ ag (Kd.C gm w' (some rq) (bC iT gJ).length (bC iT gJ)) ∧ ag (Below w.heap.size w w'))
                 case atStart => exact ⟨(0), ((aa (bC iT gJ) 0).f0), ((aa (bC iT gJ) 0).f1), zv, H', ⟨Nat.le_refl _⟩, ⟨by refine jF ?_; exact Kd.aQ (Kd.aT (p := ⟨oF, 1, none⟩) (Kd.aT (p := ⟨oF, 0, none⟩) (Kd.bJ jc.out qg.out (by decide)) (fun _ hk => hk.2) (.int .i64 ((aa (bC iT gJ) 0).f0))) (fun _ hk => hk.2) (.int .i64 ((aa (bC iT gJ) 0).f1))) (fun _ hk => trivial)⟩, ⟨by refine jF ?_; exact Kd.aQ (Kd.aT (p := ⟨oF, 1, none⟩) (Kd.aT (p := ⟨oF, 0, none⟩) (Kd.aQ gK.out (fun k_ hk => (⟨hk, hk.2⟩ : _ ∧ k_ ≠ oF))) (fun _ hk => hk.2) (.int .i64 ((aa (bC iT gJ) 0).f0))) (fun _ hk => hk.2) (.int .i64 ((aa (bC iT gJ) 0).f1))) (fun _ hk => hk.1.2)⟩, ⟨by refine sM ?_; exact Kd.dF (Kd.eB (p := ⟨oF, 1, none⟩) (Kd.eB (p := ⟨oF, 0, none⟩) (Kd.dF iq.out (fun k_ hk => (⟨hk, hk.2⟩ : _ ∧ k_ ≠ oF))) (fun _ hk => hk.2) (.int .i64 ((aa (bC iT gJ) 0).f0))) (fun _ hk => hk.2) (.int .i64 ((aa (bC iT gJ) 0).f1))) (fun _ hk => ⟨hk.1.1, hk.1.2⟩)⟩, ⟨by refine iA vk.out ?_; refine iA vk.out ?_; refine zk ?_; exact eH.out⟩, ⟨by refine iA vo.out ?_; refine iA vo.out ?_; refine zk ?_; exact gq.out⟩, ⟨by refine iA vv.out ?_; refine iA vv.out ?_; refine zk ?_; exact jm.out⟩, ⟨by refine zk ?_; refine aV (cs := #[.int .i64 ((aa (bC iT gJ) 0).f0), .int .i64 0]) ?_ 1 _ rfl; refine zk ?_; refine aV (cs := #[.int .i64 0, .int .i64 0]) ?_ 0 _ rfl; refine zk ?_; exact qg.out⟩, ⟨(Kd.aU (by refine jF ?_; exact (Kd.aQ (Kd.aT (p := ⟨oF, 1, none⟩) (Kd.aT (p := ⟨oF, 0, none⟩) (Kd.aQ Py.out (fun k_ hk => (⟨hk, hk.2⟩ : _ ∧ k_ ≠ oF))) (fun _ hk => hk.2) (.int .i64 ((aa (bC iT gJ) 0).f0))) (fun _ hk => hk.2) (.int .i64 ((aa (bC iT gJ) 0).f1))) (fun _ h_ => h_.1)))).2.2⟩, ⟨zB HB⟩⟩
                 case round =>
                  clear H'
                  obtain ⟨gG, oo, nk, rfl, HA, wO, jc, gK, iq, eH, gq, jm, qg, jG, HB⟩ := hrel; cases gk with
                  | zero => exact absurd HA.out (by simp [ak.l1])
                  | succ k3 =>
                   have H := HA.out; clear HA; simp only [ak.l1] at H; by_cases c44 : gG < ((bC iT gJ).length : Int)
                   · rw [if_pos c44] at H; have aq3 := decide_eq_true c44; clear c44; by_cases Qa : ((bC iT gJ).length : Int) > 1
                     · rw [if_pos Qa] at H; have aq4 := decide_eq_true Qa; have aq5 : decide (1 < (bC iT gJ).length) = true := decide_eq_true (by omega); clear Qa; by_cases c46 : 0 ≤ gG
                       · rw [if_pos c46] at H; have aAn := decide_eq_true c46; clear c46; by_cases KX : 0 < (l1.length : Int)
                         · rw [if_pos KX] at H; have WH := decide_eq_true KX; have aAo : decide (0 < l1.length) = true := decide_eq_true (by omega); clear KX; by_cases ZG : ((aa (bC iT gJ) gG).f0) = (rd l1 0)
                           · rw [if_pos ZG] at H; have agN : (((aa (bC iT gJ) gG).f0) == (rd l1 0)) = true := beq_iff_eq.mpr ZG; have agO : (((aa (bC iT gJ) gG).f0) != (rd l1 0)) = false := bne_eq_false_iff_eq.mpr ZG; clear ZG; replace H := zE H; obtain ⟨alA, A49, H⟩ := H; (try dsimp only at H); by_cases WI : alA = true
                             · subst WI; rw [if_pos rfl] at H; have H' := zA H; clear H; try go_wp2
                               replace jc := zA (Kd.nL jc.out); replace gK := zA (Kd.nL gK.out); replace iq := zA (Kd.Bi iq.out); replace eH := zA (bO eH.out); replace gq := zA (bO gq.out); replace jm := zA (bO jm.out); replace qg := zA (bO qg.out); replace jG := zA (Kd.fB jG.out); replace HB := zA (bn HB.out); have LQ : 0 ≤ (gG : Int) := zo; have LU : gG < ((bC iT gJ).length : Int) := zo; obtain ⟨SH, ac0, nQ, nR⟩ := eG jG.out gG LQ LU; have XK := nR; have XL := nQ; obtain rfl : rq = SH := (by injection ac0); replace nQ := nQ; replace nR := nR; replace LQ := eq_true LQ; replace LU := eq_true LU; have LV : 0 ≤ (0 : Int) := (by omega); have LW : 0 < (l1.length : Int) := zo; obtain ⟨LX, ac1, nu⟩ := Kd.eP HR1.out 0 LV LW; have pJ := nu; (try rw [show ((0 : Int)).toNat = 0 from rfl] at pJ); (try rw [show 0 * 1 = 0 from rfl] at pJ); (try rw [Addr.add_zero'] at pJ); cases ac1; have ahZ : (0 < l1.length) = True := eq_true (by omega); (try rw [show ((0 : Int)).toNat = 0 from rfl] at nu); (try rw [Addr.add_zero'] at nu); replace nu := (zx HB nu :); replace LV := eq_true LV; replace LW := eq_true LW; have Vi : 0 ≤ (gG : Int) := zo; have Vj : gG < ((bC iT gJ).length : Int) := zo; obtain ⟨ac2, alH, rH, rJ⟩ := eG jG.out gG Vi Vj; have afw := rJ; have afx := rH; obtain rfl : rq = ac2 := (by injection alH); replace rH := rH; replace rJ := rJ; replace Vi := eq_true Vi; replace Vj := eq_true Vj; refine EJ (n := 24) (S := fun w' => w'.cell? (rq.add ((gG).toNat * 2)) = some (.int .i64 ((aa (bC iT gJ) gG).f0)) ∧ w'.cell? ⟨(rq.add ((gG).toNat * 2)).block, (rq.add ((gG).toNat * 2)).off + 1, none⟩ = some (.int .i64 ((aa (bC iT gJ) gG).f1)) ∧ w'.cell? LX = some (.int .i64 (rd l1 0)) ∧ w'.cell? (rq.add ((gG).toNat * 2)) = some (.int .i64 ((aa (bC iT gJ) gG).f0)) ∧ w'.cell? ⟨(rq.add ((gG).toNat * 2)).block, (rq.add ((gG).toNat * 2)).off + 1, none⟩ = some (.int .i64 ((aa (bC iT gJ) gG).f1))) (ds := []) ak.XF ak.Pw ⟨(nQ), (nR), ((zx HB pJ :)), (rH), (rJ)⟩ (fun hHeld qd DY => ?_); generalize wr.drew = Um at jc gK iq eH gq jm qg jG HB nQ nR nu rH rJ hHeld ⊢; refine zp 0 ?_; refine zp 1 ?_; refine zp 2 ?_; refine zp 3 ?_; refine zp 4 ?_; refine zp 5 ?_; refine zp 6 ?_; refine zp 7 ?_; refine zp 9 ?_; refine zp 10 ?_; refine zt 8 ?_; refine zt 11 ?_; refine zp 12 ?_; refine zp 13 ?_; refine zp 14 ?_; refine zp 15 ?_; refine zp 16 ?_; refine zp 17 ?_; refine zp 18 ?_; refine zp 19 ?_; refine zt 20 ?_; refine wU 21 (fun K hK => ?_); refine lu Tryd.func34 (by kernel_rfl) rfl #[.slice (some LX) l1.length c1, .int .i64 ((aa (bC iT gJ) gG).f1)] (by rfl) rfl rfl Cc ?_; with_reducible refine (bM.calls k3 _ _ l1 ((aa (bC iT gJ) gG).f1) true _ ?aI ?aN A49.out).mono ?_
                               (case aI => exact jB HR1 HB); (case aN => exact rX.out); rintro e w' ⟨rfl, ⟨nd, rfl⟩⟩; refine ⟨_, rfl, ?_⟩; refine hK.out _ _ ⟨(nQ), (nR), ((zx HB pJ :)), (rH), (rJ)⟩ (fun hHeld => ?_); clear hK K; refine qp 84 ?_; refine zp 22 ?_; refine zp 23 ?_; refine lK (iZ qd.out (by kernel_rfl)) ?_; try go_wp2
                               go_roundg k3
                               case measure => have := ZE.out; have := mo.out; have := wO.out; omega
                               case rel => exact ⟨(wrap64 (gG + 1)), (oo), (nk), zv, H', ⟨by have := ZE.out; have := mo.out; have := wO.out; omega⟩, ⟨zR jc⟩, ⟨zR gK⟩, ⟨zS iq⟩, ⟨zK eH⟩, ⟨zK gq⟩, ⟨zK jm⟩, ⟨zK qg⟩, ⟨by repeat (first | (with_reducible exact jG.out) | (with_reducible refine Kd.dY ?_ _) | (with_reducible refine Kd.dZ ?_ _) | (with_reducible refine Kd.fB ?_) | exact jG.out)⟩, ⟨zB HB⟩⟩
                             · replace WI := Bool.eq_false_iff.mpr WI; subst WI; rw [if_neg (show ¬ (false = true) by decide)] at H; have H' := zA H; clear H; try go_wp2
                               replace jc := zA (Kd.nL jc.out); replace gK := zA (Kd.nL gK.out); replace iq := zA (Kd.Bi iq.out); replace eH := zA (bO eH.out); replace gq := zA (bO gq.out); replace jm := zA (bO jm.out); replace qg := zA (bO qg.out); replace jG := zA (Kd.fB jG.out); replace HB := zA (bn HB.out); have LQ : 0 ≤ (gG : Int) := zo; have LU : gG < ((bC iT gJ).length : Int) := zo; obtain ⟨SH, ac0, nQ, nR⟩ := eG jG.out gG LQ LU; have XK := nR; have XL := nQ; obtain rfl : rq = SH := (by injection ac0); replace nQ := nQ; replace nR := nR; replace LQ := eq_true LQ; replace LU := eq_true LU; have LV : 0 ≤ (0 : Int) := (by omega); have LW : 0 < (l1.length : Int) := zo; obtain ⟨LX, ac1, nu⟩ := Kd.eP HR1.out 0 LV LW; have pJ := nu; (try rw [show ((0 : Int)).toNat = 0 from rfl] at pJ); (try rw [show 0 * 1 = 0 from rfl] at pJ); (try rw [Addr.add_zero'] at pJ); cases ac1; have ahZ : (0 < l1.length) = True := eq_true (by omega); (try rw [show ((0 : Int)).toNat = 0 from rfl] at nu); (try rw [Addr.add_zero'] at nu); replace nu := (zx HB nu :); replace LV := eq_true LV; replace LW := eq_true LW; have Vi : 0 ≤ (gG : Int) := zo; have Vj : gG < ((bC iT gJ).length : Int) := zo; obtain ⟨ac2, alH, rH, rJ⟩ := eG jG.out gG Vi Vj; have afw := rJ; have afx := rH; obtain rfl : rq = ac2 := (by injection alH); replace rH := rH; replace rJ := rJ; replace Vi := eq_true Vi; replace Vj := eq_true Vj; refine EJ (n := 24) (S := fun w' => w'.cell? (rq.add ((gG).toNat * 2)) = some (.int .i64 ((aa (bC iT gJ) gG).f0)) ∧ w'.cell? ⟨(rq.add ((gG).toNat * 2)).block, (rq.add ((gG).toNat * 2)).off + 1, none⟩ = some (.int .i64 ((aa (bC iT gJ) gG).f1)) ∧ w'.cell? LX = some (.int .i64 (rd l1 0)) ∧ w'.cell? (rq.add ((gG).toNat * 2)) = some (.int .i64 ((aa (bC iT gJ) gG).f0)) ∧ w'.cell? ⟨(rq.add ((gG).toNat * 2)).block, (rq.add ((gG).toNat * 2)).off + 1, none⟩ = some (.int .i64 ((aa (bC iT gJ) gG).f1))) (ds := []) ak.XF ak.Pw ⟨(nQ), (nR), ((zx HB pJ :)), (rH), (rJ)⟩ (fun hHeld qd DY => ?_); generalize wr.drew = w52 at jc gK iq eH gq jm qg jG HB nQ nR nu rH rJ hHeld ⊢; refine zp 0 ?_; refine zp 1 ?_; refine zp 2 ?_; refine zp 3 ?_; refine zp 4 ?_; refine zp 5 ?_; refine zp 6 ?_; refine zp 7 ?_; refine zp 9 ?_; refine zp 10 ?_; refine zt 8 ?_; refine zt 11 ?_; refine zp 12 ?_; refine zp 13 ?_; refine zp 14 ?_; refine zp 15 ?_; refine zp 16 ?_; refine zp 17 ?_; refine zp 18 ?_; refine zp 19 ?_; refine zt 20 ?_; refine wU 21 (fun K hK => ?_); refine lu Tryd.func34 (by kernel_rfl) rfl #[.slice (some LX) l1.length c1, .int .i64 ((aa (bC iT gJ) gG).f1)] (by rfl) rfl rfl Cc ?_; with_reducible refine (bM.calls k3 _ _ l1 ((aa (bC iT gJ) gG).f1) false _ ?aI ?aN A49.out).mono ?_
                               (case aI => exact jB HR1 HB); (case aN => exact rX.out); rintro e w' ⟨rfl, ⟨nd, rfl⟩⟩; refine ⟨_, rfl, ?_⟩; refine hK.out _ _ ⟨(nQ), (nR), ((zx HB pJ :)), (rH), (rJ)⟩ (fun hHeld => ?_); clear hK K; refine qp 84 ?_; refine zp 22 ?_; refine zp 23 ?_; refine lK (iZ qd.out (by kernel_rfl)) ?_; have alI : 0 ≤ (gG : Int) := zo; have alJ : gG < ((bC iT gJ).length : Int) := zo; obtain ⟨aq6, av2, XM, XN⟩ := eG jG.out gG alI alJ; obtain rfl : rq = aq6 := (by injection av2); replace XM := XM; replace XN := XN; replace alI := eq_true alI; replace alJ := eq_true alJ; have ahO := Im.out; have ahP := vk.out; have af8 := Io.out; have af9 := vo.out; have agu := Ip.out; have agv := vv.out; obtain ⟨_, _, _, _⟩ := iG qg; try go_wp2
                               go_roundg k3
                               case measure => have := ZE.out; have := mo.out; have := wO.out; omega
                               case rel => exact ⟨(wrap64 (gG + 1)), ((aa (bC iT gJ) gG).f0), ((aa (bC iT gJ) gG).f1), zv, H', ⟨by have := ZE.out; have := mo.out; have := wO.out; omega⟩, ⟨by refine jF ?_; exact Kd.aQ (Kd.aT (p := ⟨oF, 1, none⟩) (Kd.aT (p := ⟨oF, 0, none⟩) (Kd.bJ jc.out qg.out (by decide)) (fun _ hk => hk.2) (.int .i64 ((aa (bC iT gJ) gG).f0))) (fun _ hk => hk.2) (.int .i64 ((aa (bC iT gJ) gG).f1))) (fun _ hk => trivial)⟩, ⟨by refine jF ?_; exact Kd.aQ (Kd.aT (p := ⟨oF, 1, none⟩) (Kd.aT (p := ⟨oF, 0, none⟩) (Kd.aQ gK.out (fun k_ hk => (⟨hk, hk⟩ : _ ∧ k_ ≠ oF))) (fun _ hk => hk.2) (.int .i64 ((aa (bC iT gJ) gG).f0))) (fun _ hk => hk.2) (.int .i64 ((aa (bC iT gJ) gG).f1))) (fun _ hk => hk.1)⟩, ⟨by refine sM ?_; exact Kd.dF (Kd.eB (p := ⟨oF, 1, none⟩) (Kd.eB (p := ⟨oF, 0, none⟩) (Kd.dF iq.out (fun k_ hk => (⟨hk, hk.2⟩ : _ ∧ k_ ≠ oF))) (fun _ hk => hk.2) (.int .i64 ((aa (bC iT gJ) gG).f0))) (fun _ hk => hk.2) (.int .i64 ((aa (bC iT gJ) gG).f1))) (fun _ hk => ⟨hk.1.1, hk.1.2⟩)⟩, ⟨by refine iA vk.out ?_; refine iA vk.out ?_; refine zk ?_; exact eH.out⟩, ⟨by refine iA vo.out ?_; refine iA vo.out ?_; refine zk ?_; exact gq.out⟩, ⟨by refine iA vv.out ?_; refine iA vv.out ?_; refine zk ?_; exact jm.out⟩, ⟨by refine zk ?_; refine aV (cs := #[.int .i64 ((aa (bC iT gJ) gG).f0), .int .i64 nk]) ?_ 1 _ rfl; refine zk ?_; refine aV (cs := #[.int .i64 oo, .int .i64 nk]) ?_ 0 _ rfl; refine zk ?_; exact qg.out⟩, ⟨(Kd.YB (g := oF) (fun h => h) jG.out (fun ad_ he_ _ => by injection he_ with he_; subst he_; exact ADN.out) _ (by repeat (first | exact aY.refl _ _ _ | apply aY.nW | apply cZ | apply dN | apply dh)))⟩, ⟨zB HB⟩⟩
                           · rw [if_neg ZG] at H; have agN : (((aa (bC iT gJ) gG).f0) == (rd l1 0)) = false := beq_eq_false_iff_ne.mpr ZG; have agO : (((aa (bC iT gJ) gG).f0) != (rd l1 0)) = true := bne_iff_ne.mpr ZG; have H' := zA H; clear H; try go_wp2
                             replace jc := zA (Kd.nL jc.out); replace gK := zA (Kd.nL gK.out); replace iq := zA (Kd.Bi iq.out); replace eH := zA (bO eH.out); replace gq := zA (bO gq.out); replace jm := zA (bO jm.out); replace qg := zA (bO qg.out); replace jG := zA (Kd.fB jG.out); replace HB := zA (bn HB.out); have LQ : 0 ≤ (gG : Int) := zo; have LU : gG < ((bC iT gJ).length : Int) := zo; obtain ⟨SH, ac0, nQ, nR⟩ := eG jG.out gG LQ LU; have XK := nR; have XL := nQ; obtain rfl : rq = SH := (by injection ac0); replace nQ := nQ; replace nR := nR; replace LQ := eq_true LQ; replace LU := eq_true LU; have LV : 0 ≤ (0 : Int) := (by omega); have LW : 0 < (l1.length : Int) := zo; obtain ⟨LX, ac1, nu⟩ := Kd.eP HR1.out 0 LV LW; have pJ := nu; (try rw [show ((0 : Int)).toNat = 0 from rfl] at pJ); (try rw [show 0 * 1 = 0 from rfl] at pJ); (try rw [Addr.add_zero'] at pJ); cases ac1; have ahZ : (0 < l1.length) = True := eq_true (by omega); (try rw [show ((0 : Int)).toNat = 0 from rfl] at nu); (try rw [Addr.add_zero'] at nu); replace nu := (zx HB nu :); replace LV := eq_true LV; replace LW := eq_true LW; refine EJ (n := 24) (S := fun w' => w'.cell? (rq.add ((gG).toNat * 2)) = some (.int .i64 ((aa (bC iT gJ) gG).f0)) ∧ w'.cell? ⟨(rq.add ((gG).toNat * 2)).block, (rq.add ((gG).toNat * 2)).off + 1, none⟩ = some (.int .i64 ((aa (bC iT gJ) gG).f1)) ∧ w'.cell? LX = some (.int .i64 (rd l1 0))) (ds := []) ak.XF ak.Pw ⟨(nQ), (nR), ((zx HB pJ :))⟩ (fun hHeld qd DY => ?_); generalize wr.drew = w57 at jc gK iq eH gq jm qg jG HB nQ nR nu hHeld ⊢; refine zp 0 ?_; refine zp 1 ?_; refine zp 2 ?_; refine zp 3 ?_; refine zp 4 ?_; refine zp 5 ?_; refine zp 6 ?_; refine zp 7 ?_; refine zp 9 ?_; refine zp 10 ?_; refine zt 8 ?_; refine zt 11 ?_; refine zp 12 ?_; refine zp 13 ?_; refine zp 14 ?_; refine zq 15 ?_; refine zq 16 ?_; refine zq 17 ?_; refine zq 18 ?_; refine zq 19 ?_; refine zq 20 ?_; refine zq 21 ?_; refine zq 22 ?_; refine zp 23 ?_; refine lK (iZ qd.out (by kernel_rfl)) ?_; try go_wp2
                             go_roundg k3
                             case measure => have := ZE.out; have := mo.out; have := wO.out; omega
                             case rel => exact ⟨(wrap64 (gG + 1)), (oo), (nk), zv, H', ⟨by have := ZE.out; have := mo.out; have := wO.out; omega⟩, ⟨zR jc⟩, ⟨zR gK⟩, ⟨zS iq⟩, ⟨zK eH⟩, ⟨zK gq⟩, ⟨zK jm⟩, ⟨zK qg⟩, ⟨by repeat (first | (with_reducible exact jG.out) | (with_reducible refine Kd.dY ?_ _) | (with_reducible refine Kd.dZ ?_ _) | (with_reducible refine Kd.fB ?_) | exact jG.out)⟩, ⟨zB HB⟩⟩
                         · rw [if_neg KX] at H; exact absurd H (by simp)
                       · rw [if_neg c46] at H; exact absurd H (by simp)
                     · rw [if_neg Qa] at H; have aq4 := decide_eq_false Qa; have aq5 : decide (1 < (bC iT gJ).length) = false := decide_eq_false (by omega); clear Qa; have H' := zA H; clear H; try go_wp2
                       replace jc := zA (Kd.nL jc.out); replace gK := zA (Kd.nL gK.out); replace iq := zA (Kd.Bi iq.out); replace eH := zA (bO eH.out); replace gq := zA (bO gq.out); replace jm := zA (bO jm.out); replace qg := zA (bO qg.out); replace jG := zA (Kd.fB jG.out); replace HB := zA (bn HB.out); refine yc (n := 24) (S := fun w' => True) (ds := []) #[false, false, false, false, false, false, false, false, false, false, false, false, false, false, false, false, false, false, false, false, false, false, false, false] (by kernel_rfl) rfl rfl trivial (fun hHeld => ?_); refine z8 ak.XF ak.Pw (fun qd DY => ?_); generalize wr.drew = w58 at jc gK iq eH gq jm qg jG HB hHeld ⊢; refine zp 0 ?_; refine zp 1 ?_; refine zp 2 ?_; refine zp 3 ?_; refine zq 4 ?_; refine zq 5 ?_; refine zq 6 ?_; refine zq 7 ?_; refine zq 8 ?_; refine zq 9 ?_; refine zq 10 ?_; refine zq 11 ?_; refine zq 12 ?_; refine zp 13 ?_; refine zp 14 ?_; refine zq 15 ?_; refine zq 16 ?_; refine zq 17 ?_; refine zq 18 ?_; refine zq 19 ?_; refine zq 20 ?_; refine zq 21 ?_; refine zq 22 ?_; refine zp 23 ?_; refine lK (iZ qd.out (by kernel_rfl)) ?_; try go_wp2
                       go_roundg k3
                       case measure => have := ZE.out; have := mo.out; have := wO.out; omega
                       case rel => exact ⟨(wrap64 (gG + 1)), (oo), (nk), zv, H', ⟨by have := ZE.out; have := mo.out; have := wO.out; omega⟩, ⟨zR jc⟩, ⟨zR gK⟩, ⟨zS iq⟩, ⟨zK eH⟩, ⟨zK gq⟩, ⟨zK jm⟩, ⟨zK qg⟩, ⟨by repeat (first | (with_reducible exact jG.out) | (with_reducible refine Kd.dY ?_ _) | (with_reducible refine Kd.dZ ?_ _) | (with_reducible refine Kd.fB ?_) | exact jG.out)⟩, ⟨zB HB⟩⟩
                   · rw [if_neg c44] at H; have aq3 := decide_eq_false c44; clear c44; by_cases c59 : om.length < 8796093022208
                     · rw [if_pos c59] at H; have aq7 := zA c59; clear c59; obtain ⟨Zv, SI⟩ : ∃ y_ : List (aD), y_ = (om ++ [(⟨oo, nk⟩ : aD)]) := ⟨_, rfl⟩; replace H : (ak.l0 k3 l1 (wrap64 (gJ + 1)) u6 Zv iT) = some (r1, r2, r3, r4) := by first | (rw [SI]; with_reducible exact H) | (have iW := (Option.bind_some _ _).symm.trans H; rw [SI]; with_reducible exact iW) | (have iW := (Option.bind_some _ _).symm.trans H; with_reducible exact iW) | with_reducible exact H | (rw [SI]; exact H) | exact H
                       have aq8 := zA SI; clear SI; have H' := zA H; clear H; have ag6 := oW.out; have ag7 := jw.out; have ab3 := oZ.out; have ab4 := lY.out; have ahe := vv.out; have ahf := Ip.out; obtain ⟨_, _, _, _, _, _⟩ := nG jm; have ao9 := Im.out; have apa := vk.out; have apb := Io.out; have apc := vo.out; obtain ⟨_, _, _, _⟩ := iG qg; go_wp2_with (first | ((with_reducible refine fZ (b := .append) (xs := #[.tmp 92, .tmp 94]) rfl ?_); at_builtin; refine Kd.oz gm (w0 := w) w.heap.size rfl (.tmp 92) (.tmp 94) 22 42 (.agg #[(.int .i64 0), (.int .i64 0)]) 16 rfl Tryd.underlying22 nA rfl (by decide) (by omega) vK om (⟨oo, nk⟩ : aD) [.int .i64 oo, .int .i64 nk] (fun k_ => k_ ≠ oF) (fun _ => False) rfl rfl ?aP (fun _ hk => hk.elim) ?aF ?aO ?aB ?aS ?aL ?_; (case aP => exact mR _ _ _ (⟨oo, nk⟩ : aD)); (case aB => exact (zB HB)); (case aF => exact (fun k_ hk => Kd.ug (g := oF) (o := .cells #[.int .i64 oo, .int .i64 nk] 42 (0, 0)) (zK qg) k_ hk)); (case aO => exact (zR gK)); (case aS => exact (aJ (zB HB))); (case aL => have := aq7.out; omega); intro aDn w67 ho hb hg hat; rw [← aq8.out] at ho; have ah0 := zA (ho); replace jc := zA (Kd.oH (zR jc) (Kd.nM (zR gK)) (by decide) hg); replace iq := zA (Kd.wT (ok := (fun k_ => k_ ≠ oF)) (by refine sM ?_; exact Kd.dF iq.out (fun _ hk => ⟨hk.2, hk.1⟩)) hg hat); replace eH := zA (bZ (g := uE) (o := .cells #[.int .i64 au, .slice aZ ah.length aW] 24 (0, 0)) (zK eH) hg (Kd.oK gK.out eH.out (by decide))); replace gq := zA (bZ (g := qw) (o := .cells #[.slice none 0 0, .slice none 0 0, .slice none 0 0] 28 (0, 0)) (zK gq) hg (Kd.oK gK.out gq.out (by decide))); replace jm := zA (bZ (g := nV) (o := .cells #[.slice tZ u6.length uf, vK, .slice (some XH) iT.length Cx] 28 (0, 0)) (zK jm) hg (Kd.oK gK.out jm.out (by decide))); replace qg := zA (bZ (g := oF) (o := .cells #[.int .i64 oo, .int .i64 nk] 42 (0, 0)) (zK qg) hg (Kd.Bh gK.out (fun _ hk => hk))); replace HB := zA (hb); clear gK; clear ho hb hg hat; obtain ⟨OY, Ms, ace⟩ := Kd.bD ah0.out; subst ace; obtain ⟨_, _, _, _, _, _⟩ := nG jm)); go_roundg k3
                       case measure => have := ZE.out; have := mo.out; have := wO.out; omega
                       case rel => exact ⟨(wrap64 (gJ + 1)), (Zv), (.slice OY Zv.length Ms), zv, H', ⟨by have := ZE.out; have := mo.out; have := wO.out; omega⟩, ⟨by refine jF ?_; exact Kd.aQ (Kd.aT (p := ⟨nV, 1, none⟩) (Kd.bJ jc.out jm.out (by decide)) (fun _ hk => hk.2) (.slice OY Zv.length Ms)) (fun _ hk => trivial)⟩, ⟨by refine jF ?_; exact Kd.aQ (Kd.aT (p := ⟨nV, 1, none⟩) (Kd.bJ ah0.out jm.out (by decide)) (fun _ hk => hk.2) (.slice OY Zv.length Ms)) (fun _ hk => trivial)⟩, ⟨by refine sM ?_; exact Kd.dF (Kd.eB (p := ⟨nV, 1, none⟩) (Kd.jY iq.out jm.out (by decide)) (fun _ hk => hk.2) (.slice OY Zv.length Ms)) (fun _ hk => hk.1.2)⟩, ⟨by refine iA jw.out ?_; refine zk ?_; exact eH.out⟩, ⟨by refine iA lY.out ?_; refine zk ?_; exact gq.out⟩, ⟨by refine zk ?_; refine aV (cs := #[.slice tZ u6.length uf, vK, .slice (some XH) iT.length Cx]) ?_ 1 _ rfl; refine zk ?_; exact jm.out⟩, ⟨zB HB⟩⟩
                     · rw [if_neg c59] at H; exact absurd H (by simp)
               · rw [if_neg Fa] at H; exact absurd H (by simp)
             · rw [if_neg c34] at H; exact absurd H (by simp)
           · rw [if_neg Cj] at H; have I9 := decide_eq_false Cj; clear Cj; simp only [Option.some.injEq, Prod.mk.injEq] at H; obtain ⟨rfl, rfl, rfl, rfl⟩ := H; have aAp := oW.out; have aAq := jw.out; have aAr := oZ.out; have aAs := lY.out; obtain ⟨_, _, _, _, _, _⟩ := nG jm; have aAt := xV.out; have aAu := xU.out; obtain ⟨_, _, _, _, _, _⟩ := nG gq; obtain ⟨ac3, ac4, av4⟩ := Kd.bD gK.out; subst av4; go_wp2; refine bodyPost_ret (iw rfl _ _ qw 28 #[.slice tZ u6.length uf, .slice ac3 om.length ac4, .slice FE iT.length Cx] (0, 0) _ rfl (by refine zk ?_; refine aV (cs := #[.slice tZ u6.length uf, .slice ac3 om.length ac4, .slice none 0 0]) ?_ 2 _ rfl; refine zk ?_; refine aV (cs := #[.slice tZ u6.length uf, .slice none 0 0, .slice none 0 0]) ?_ 1 _ rfl; refine zk ?_; refine aV (cs := #[.slice none 0 0, .slice none 0 0, .slice none 0 0]) ?_ 0 _ rfl; refine zk ?_; exact gq.out) Tryd.underlying28 rfl (by kernel_rfl)) rfl ?_; exact ⟨_, _, _, ze, by refine jF ?_; exact Kd.aQ (Kd.aT (p := ⟨qw, 2, none⟩) (Kd.aT (p := ⟨qw, 1, none⟩) (Kd.aT (p := ⟨qw, 0, none⟩) (Kd.bJ jc.out gq.out (by decide)) (fun _ hk => hk.2) (.slice tZ u6.length uf)) (fun _ hk => hk.2) (.slice ac3 om.length ac4)) (fun _ hk => hk.2) (.slice FE iT.length Cx)) (fun _ hk => trivial), by refine jF ?_; exact Kd.aQ (Kd.aT (p := ⟨qw, 2, none⟩) (Kd.aT (p := ⟨qw, 1, none⟩) (Kd.aT (p := ⟨qw, 0, none⟩) (Kd.bJ gK.out gq.out (by decide)) (fun _ hk => hk.2) (.slice tZ u6.length uf)) (fun _ hk => hk.2) (.slice ac3 om.length ac4)) (fun _ hk => hk.2) (.slice FE iT.length Cx)) (fun _ hk => trivial), by refine sM ?_; exact Kd.dF (Kd.eB (p := ⟨qw, 2, none⟩) (Kd.eB (p := ⟨qw, 1, none⟩) (Kd.eB (p := ⟨qw, 0, none⟩) (Kd.jY iq.out gq.out (by decide)) (fun _ hk => hk.2) (.slice tZ u6.length uf)) (fun _ hk => hk.2) (.slice ac3 om.length ac4)) (fun _ hk => hk.2) (.slice FE iT.length Cx)) (fun _ hk => hk.1), zB HB⟩
       · rw [if_neg c19] at H; exact absurd H (by simp)
 · rw [if_neg c5] at H; have pM : (Il == 0) = false := beq_eq_false_iff_ne.mpr c5; have yh : (Il != 0) = true := bne_iff_ne.mpr c5; simp only [Option.some.injEq, Prod.mk.injEq] at H; obtain ⟨rfl, rfl, rfl, rfl⟩ := H; go_enter Tryd.func14, Tryd.ntmps14; go_wp2_with (first | ((with_reducible refine aH (N := 3) rfl ?_); refine zX (N := 3) (cs := #[.int .i64 au, .slice aZ ah.length aW]) (t := 24) ?_; intro uE hg w76 aG hb; have eH := zA (aG); have aqY := zA (zW hg HB); have aqZ := zA (zW hg HB); replace HB := zA (af (zB HB) hb); clear hb aG hg) | ((with_reducible refine aH (N := 6) rfl ?_); refine zX (N := 6) (cs := #[.slice none 0 0, .slice none 0 0, .slice none 0 0]) (t := 28) ?_; intro qw hg w77 aG hb; have gq := zA (aG); have aq0 := zA (zW hg HB); have aq1 := zA (zW hg HB); have xU := zA (lZ hg eH); have xV := zA (l5 hg eH); replace eH := zA (dn eH hb); replace HB := zA (af (zB HB) hb); clear hb aG hg; have aAv := xU.out; have aAw := xV.out; obtain ⟨_, _, _, _⟩ := iG eH) | ((with_reducible refine ay (f := 32) rfl ?_); refine zG (some 17) rfl Tryd.func32 #[.agg #[.int .i64 au, .slice aZ ah.length aW], .slice A1 l1.length c1, .int .i64 a2] ?_; (with_reducible refine (bI.calls k au _ _ ah _ _ l1 a2 Il _ ?aI ?aN ?bS ?bT A4.out).mono ?_); (case aI => exact jB cz HB); (case aN => exact dX.out); (case bS => exact jB HR1 HB); (case bT => exact rX.out); rintro e w80 ⟨rfl, hb⟩; refine ⟨_, rfl, ?_⟩; replace eH := zA (dn eH hb); replace gq := zA (dn gq hb); replace HB := zA (af (zB HB) hb); obtain ⟨_, _, _, _, _, _⟩ := nG gq)); refine bodyPost_ret (iw rfl _ _ qw 28 #[.slice none 0 0, .slice none 0 0, .slice none 0 0] (0, 0) _ rfl (by refine zk ?_; refine aV (cs := #[.slice none 0 0, .slice none 0 0, .slice none 0 0]) ?_ 2 _ rfl; refine zk ?_; refine aV (cs := #[.slice none 0 0, .slice none 0 0, .slice none 0 0]) ?_ 1 _ rfl; refine zk ?_; refine aV (cs := #[.slice none 0 0, .slice none 0 0, .slice none 0 0]) ?_ 0 _ rfl; refine zk ?_; exact gq.out) Tryd.underlying28 rfl (by kernel_rfl)) rfl ?_; exact ⟨_, _, _, ze, Ab, Ab, Ab, zB HB⟩
end Go.Proofs.YtjmdlmogdbhdhaaDoor.P
namespace Go.Proofs.YtjmdlmogdbhdhaaDoor.P
open Go.RowKit Go.Proofs.YtjmdlmogdbhdhaaDoorW.PrintWords Go.Proofs.YtjmdlmogdbhdhaaDoorW.PrintLast Go.Proofs.YtjmdlmogdbhdhaaDoorW.PrintMore
section
variable {N : Int} {L : List aD} {s : List Int} {kind : Int}
theorem BP {α : Type} [DecidableEq α] (s : List α) (i : Nat) (hi : i < s.length) (x : α) : x ∈ s.take (i + 1) ↔ (x ∈ s.take i ∨ x = s[i]) := by
  rw [List.take_succ_eq_append_getElem hi, List.mem_append, List.mem_singleton]
theorem Zw (hs : mD N s) : s.Nodup := List.nodup_iff_pairwise_ne.2 (hs.2.imp (fun h => by omega))
theorem ac5 (hs : mD N s) (i : Nat) (hi : i < s.length) : ¬ s[i] ∈ s.take i := by
  intro h
  obtain ⟨j, hj, he⟩ := List.getElem_of_mem h
  rw [List.length_take] at hj
  rw [List.getElem_take] at he
  have := (List.getElem_inj (Zw hs)).1 he
  omega
structure afy (L : List aD) (s : List Int) (kind : Int) (a i : Nat) (d : List aD) (b : Bool) : Prop where
  mem : ∀ p : aD, p ∈ d ↔ (p.f0 ∈ s.take i ∧ p.f1 = (a : Int)) ∨ (kind = 1 ∧ p.f0 = (a : Int) ∧ p.f1 ∈ s.take i ∧ p ∈ L)
  ord : ¬ (a : Int) ∈ s → d.Pairwise um
  len : d.length ≤ 2 * i
  hos : b = true ↔ (kind = 2 ∨ (kind = 1 ∧ ∃ x ∈ s.take i, (⟨(a : Int), x⟩ : aD) ∈ L))
theorem XO (hG : jd N L) (hs : mD N s) (a : Nat) (ha : (a : Int) < N) {acc : List (List aD)} {V : List (List aD)}
    (hend : ∀ d b, afy L s kind a s.length d b → Ev (fun k => av.l2 k s kind acc (a : Int) d b (s.length : Int) N L) V) :
    ∀ (n i : Nat), n + i = s.length → ∀ d b, afy L s kind a i d b → Ev (fun k => av.l2 k s kind acc (a : Int) d b (i : Int) N L) V
  | 0, i, hi, d, b, hd => by
    have : i = s.length := by omega
    subst this
    exact hend d b hd
  | n + 1, i, hi, d, b, hd => by
    have hlt : i < s.length := by omega
    have hsl := hs.len hG.n0 hG.n1
    have hgl := mq hG
    have ih := XO hG hs a ha hend n (i + 1) (by omega)
    have hni := ac5 hs i hlt
    have hdl := hd.len
    have hm1 : ∀ p : aD, p ∈ Sy d ⟨s[i], (a : Int)⟩ ↔ (p = ⟨s[i], (a : Int)⟩ ∨ p ∈ d) := fun p => by rw [(xS _ _).mem_iff, List.mem_cons]
    have hsi : s[i] ∈ s := List.getElem_mem hlt
    have ho1 : ¬ (a : Int) ∈ s → (Sy d ⟨s[i], (a : Int)⟩).Pairwise um := fun h => LC (hd.ord h) (fun hm => by
      rcases (hd.mem _).1 hm with ⟨h1, _⟩ | ⟨_, h1, _⟩
      · exact hni h1
      · exact h (by simp only at h1; rw [← h1]; exact hsi))
    have hl1 : (Sy d ⟨s[i], (a : Int)⟩).length = d.length + 1 := by rw [(xS _ _).length_eq]; rfl
    refine Ev.succ ?_
    simp only [av.l2, pQ s i hlt, Ck i (by omega)]
    refine Ev.pos (by omega) (Ev.pos (by omega) (Ev.bind (Vb d s[i] (a : Int) (by omega)) ?_))
    have hno : ∀ b, (kind = 1 → ¬ (⟨(a : Int), s[i]⟩ : aD) ∈ L) → (b = true ↔ (kind = 2 ∨ (kind = 1 ∧ ∃ x ∈ s.take i, (⟨(a : Int), x⟩ : aD) ∈ L))) → afy L s kind a (i + 1) (Sy d ⟨s[i], (a : Int)⟩) b := by
      intro b hn hb
      refine ⟨fun p => ?_, ho1, by omega, ?_⟩
      · rw [hm1, hd.mem, BP s i hlt, BP s i hlt]
        constructor
        · rintro (rfl | ⟨h1, h2⟩ | ⟨h1, h2, h3, h4⟩)
          · exact .inl ⟨.inr rfl, rfl⟩
          · exact .inl ⟨.inl h1, h2⟩
          · exact .inr ⟨h1, h2, .inl h3, h4⟩
        · rintro (⟨h1 | h1, h2⟩ | ⟨h1, h2, h3 | h3, h4⟩)
          · exact .inr (.inl ⟨h1, h2⟩)
          · left; cases p; simp only at h1 h2; rw [h1, h2]
          · exact .inr (.inr ⟨h1, h2, h3, h4⟩)
          · exact absurd (show (⟨(a : Int), s[i]⟩ : aD) ∈ L by rw [← h2, ← h3]; exact h4) (hn h1)
      · rw [hb]
        refine or_congr Iff.rfl (and_congr_right fun hk => ?_)
        constructor
        · rintro ⟨x, hx, he⟩
          exact ⟨x, (BP s i hlt x).2 (.inl hx), he⟩
        · rintro ⟨x, hx, he⟩
          rcases (BP s i hlt x).1 hx with h | rfl
          · exact ⟨x, h, he⟩
          · exact absurd he (hn hk)
    by_cases hk : kind = 1
    · refine Ev.pos hk (Ev.bind (JG N L (a : Int) s[i] (by omega)) ?_)
      by_cases he : (⟨(a : Int), s[i]⟩ : aD) ∈ L
      · refine Ev.pos (decide_eq_true he) (Ev.bind (Vb _ (a : Int) s[i] (by omega)) (ih _ _ ⟨fun p => ?_, fun h => ?_, ?_, ?_⟩))
        · rw [(xS _ _).mem_iff, List.mem_cons, hm1, hd.mem, BP s i hlt, BP s i hlt]
          constructor
          · rintro (rfl | rfl | ⟨h1, h2⟩ | ⟨h1, h2, h3, h4⟩)
            · exact .inr ⟨hk, rfl, .inr rfl, he⟩
            · exact .inl ⟨.inr rfl, rfl⟩
            · exact .inl ⟨.inl h1, h2⟩
            · exact .inr ⟨h1, h2, .inl h3, h4⟩
          · rintro (⟨h1 | h1, h2⟩ | ⟨h1, h2, h3 | h3, h4⟩)
            · exact .inr (.inr (.inl ⟨h1, h2⟩))
            · right; left; cases p; simp only at h1 h2; rw [h1, h2]
            · exact .inr (.inr (.inr ⟨h1, h2, h3, h4⟩))
            · left; cases p; simp only at h2 h3; rw [h2, h3]
        · refine LC (ho1 h) (fun hm => ?_)
          rcases (hm1 _).1 hm with e | hm
          · injection e with e1 e2
            exact h (by rw [e1]; exact hsi)
          · rcases (hd.mem _).1 hm with ⟨h1, _⟩ | ⟨_, _, h1, _⟩
            · exact h (List.mem_of_mem_take h1)
            · exact hni h1
        · rw [(xS _ _).length_eq, List.length_cons]
          omega
        · simp only [true_iff]
          exact .inr ⟨hk, s[i], (BP s i hlt _).2 (.inr rfl), he⟩
      · exact Ev.neg (fun e => he (of_decide_eq_true e)) (ih _ _ (hno b (fun _ => he) hd.hos))
    · exact Ev.neg hk (ih _ _ (hno b (fun h => absurd h hk) hd.hos))
theorem afz (hG : jd N L) (hs : mD N s) (hk : kind = 1 ∨ kind = 2) (a : Nat) : Ew L s kind a = false ↔ ((kind = 2 ∨ (kind = 1 ∧ ∃ x ∈ s, (⟨(a : Int), x⟩ : aD) ∈ L)) ∧ ¬ (a : Int) ∈ s ∧ Q9 L s (a : Int) = false) := by
  have hN := hG.n1
  have qb : ∀ x ∈ s, 0 ≤ x ∧ x < 64 := fun x hx => by have := hs.1 x hx; omega
  have h1 := qX L s qb a
  have h2 := Aw L s qb a
  have h3 := abq L s (a : Int)
  unfold Ew
  rw [Bool.or_eq_false_iff, Bool.or_eq_false_iff, Bool.and_eq_false_iff, decide_eq_false_iff_not, Bool.not_eq_false', h2]
  have h4 : inl s a = false ↔ ¬ (a : Int) ∈ s := decide_eq_false_iff_not
  have h5 : hits L (inl s) a = false ↔ Q9 L s (a : Int) = false := by
    rw [← Bool.not_eq_true, ← Bool.not_eq_true, h1, h3]
  rw [h4, h5]
  constructor
  · rintro ⟨h6, h7, h8⟩
    refine ⟨?_, h6, h7⟩
    rcases hk with rfl | rfl
    · exact .inr ⟨rfl, h8.resolve_left (by simp)⟩
    · exact .inl rfl
  · rintro ⟨h6, h7, h8⟩
    refine ⟨h7, h8, ?_⟩
    rcases h6 with rfl | ⟨rfl, h9⟩
    · left; omega
    · exact .inr h9
theorem ac6 (hG : jd N L) (hs : mD N s) (a : Nat) (hna : ¬ (a : Int) ∈ s) {d : List aD} {b : Bool} (hd : afy L s kind a s.length d b) : d = wC L s kind a := by
  have hN := hG.n1
  have qb : ∀ x ∈ s, 0 ≤ x ∧ x < 64 := fun x hx => by have := hs.1 x hx; omega
  refine KF (hd.ord hna) ?_ (fun p => ?_)
  · have h1 := K5 (L := L) hs kind hna qb
    unfold wC at h1 ⊢
    exact MX ((yo _).nodup_iff.1 h1)
  · rw [hd.mem, AL L s qb, List.take_of_length_le (Nat.le_refl _)]
theorem XP (hG : jd N L) (hs : mD N s) (hk : kind = 1 ∨ kind = 2) : ∀ (n i : Nat), ((n + i : Nat) : Int) = N → ∀ acc : List (List aD), acc.length + n ≤ 90000 → Ev (fun k => av.l1 k s kind acc (i : Int) N L) (acc ++ vV L s kind n i)
  | 0, i, hi, acc, ha => by
    refine Ev.succ ?_
    simp only [av.l1, vV, List.append_nil]
    exact Ev.neg (by omega) (Ev.const _)
  | n + 1, i, hi, acc, ha => by
    have hN := hG.n1
    have hsl := hs.len hG.n0 hG.n1
    have hgl := mq hG
    have ih := XP hG hs hk n (i + 1) (by omega)
    have hsk := afz hG hs hk i
    refine Ev.succ ?_
    simp only [av.l1]
    refine Ev.pos (by omega) (XO hG hs i (by omega) (fun d b hd => ?_) s.length 0 (by omega) [] (kind == 2) ⟨fun p => by simp, fun _ => by simp, by simp, by simp⟩)
    have hos := hd.hos
    rw [List.take_of_length_le (Nat.le_refl _)] at hos
    refine Ev.succ ?_
    simp only [av.l2, Ck i (by omega), vV]
    refine Ev.neg (by omega) ?_
    by_cases hb : b = true
    · refine Ev.pos hb (Ev.bind (H9 s (i : Int) (by omega)) ?_)
      by_cases hin : (i : Int) ∈ s
      · have : Ew L s kind i = true := by
          rw [← Bool.not_eq_false]
          intro h; exact (hsk.1 h).2.1 hin
        rw [if_pos this]
        exact Ev.pos (decide_eq_true hin) (ih acc (by omega))
      · refine Ev.neg (fun e => hin (of_decide_eq_true e)) (Ev.bind (aeG N L s (i : Int) (by omega) (by omega)) ?_)
        cases hat : Q9 L s (i : Int) with
        | true =>
          have : Ew L s kind i = true := by
            rw [← Bool.not_eq_false]
            intro h
            have := (hsk.1 h).2.2
            rw [hat] at this; cases this
          rw [if_pos this]
          exact Ev.pos rfl (ih acc (by omega))
        | false =>
          have : Ew L s kind i = false := hsk.2 ⟨hos.1 hb, hin, hat⟩
          rw [if_neg (by rw [this]; simp), ac6 hG hs i hin hd]
          refine Ev.neg (by simp) (Ev.pos (by omega) ?_)
          have := ih (acc ++ [wC L s kind i]) (by simp; omega)
          simpa using this
    · have : Ew L s kind i = true := by
        rw [← Bool.not_eq_false]
        intro h; exact hb (hos.2 (hsk.1 h).1)
      rw [if_pos this]
      exact Ev.neg hb (ih acc (by omega))
theorem XQ (hG : jd N L) (hs : mD N s) (hk : kind = 1 ∨ kind = 2) : ∀ (n i : Nat), n + i = L.length → ∀ acc : List (List aD), acc.length ≤ i → Ev (fun k => av.l0 k s kind acc (i : Int) N L) (acc ++ (D5 (L.drop i) s ++ vV L s kind N.toNat 0))
  | 0, i, hi, acc, ha => by
    have h0 := hG.n0
    have h1 := hG.n1
    have hgl := mq hG
    refine Ev.succ ?_
    simp only [av.l0]
    refine Ev.neg (by omega) ?_
    rw [List.drop_eq_nil_of_le (by omega)]
    exact XP hG hs hk N.toNat 0 (by omega) acc (by omega)
  | n + 1, i, hi, acc, ha => by
    have hgl := mq hG
    have hsl := hs.len hG.n0 hG.n1
    have hlt : i < L.length := by omega
    have ih := XQ hG hs hk n (i + 1) (by omega)
    refine Ev.succ ?_
    simp only [av.l0, o7 L i hlt, Ck i (by omega)]
    refine Ev.pos (by omega) (Ev.pos (by omega) (Ev.bind (H9 s _ (by omega)) ?_))
    have hid : D5 (L.drop i) s = (if (zJ s (L[i]).f0 && zJ s (L[i]).f1) = true then [[L[i]]] else []) ++ D5 (L.drop (i + 1)) s := by
      unfold D5
      rw [List.drop_eq_getElem_cons hlt, List.filter_cons]
      split <;> simp
    rw [hid]
    cases ha' : zJ s (L[i]).f0 with
    | false => exact Ev.neg (by unfold zJ at ha'; rw [ha']; simp) (by simpa using ih acc (by omega))
    | true =>
      refine Ev.pos ha' (Ev.bind (H9 s _ (by omega)) ?_)
      cases hb' : zJ s (L[i]).f1 with
      | false => exact Ev.neg (by unfold zJ at hb'; rw [hb']; simp) (by simpa using ih acc (by omega))
      | true =>
        refine Ev.pos hb' (Ev.pos (by omega) ?_)
        have := ih (acc ++ [[L[i]]]) (by simp; omega)
        simpa using this
theorem afA (hG : jd N L) (hs : mD N s) (hk : kind = 1 ∨ kind = 2) : Ev (fun k => av.f k N L s kind) (qA N L s kind) := by
  have := XQ hG hs hk L.length 0 (by omega) [] (by simp)
  rw [List.drop_zero, List.nil_append] at this
  simp only [av.f]
  exact this
def pick (s : List Int) (d : List aD) : Nat → Nat → aD → aD
  | 0, _, p => p
  | n + 1, i, p => pick s d n (i + 1) (if 1 < d.length ∧ (xq d i).f0 = rd s 0 ∧ ¬ (xq d i).f1 ∈ s then xq d i else p)
theorem SK {d : List aD} {q : aD} (hu : ∀ j, j < d.length → (xq d j).f0 = rd s 0 → ¬ (xq d j).f1 ∈ s → xq d j = q) : ∀ (n i : Nat) (p : aD), n + i = d.length → (p = q ∨ (1 < d.length ∧ ∃ j, i ≤ j ∧ j < d.length ∧ (xq d j).f0 = rd s 0 ∧ ¬ (xq d j).f1 ∈ s)) → pick s d n i p = q
  | 0, i, p, hi, h => by
    rcases h with h | ⟨_, j, h1, h2, _⟩
    · exact h
    · omega
  | n + 1, i, p, hi, h => by
    simp only [pick]
    refine SK hu n (i + 1) _ (by omega) ?_
    by_cases hc : 1 < d.length ∧ (xq d i).f0 = rd s 0 ∧ ¬ (xq d i).f1 ∈ s
    · rw [if_pos hc]
      exact .inl (hu i (by omega) hc.2.1 hc.2.2)
    · rw [if_neg hc]
      rcases h with h | ⟨h0, j, h1, h2, h3, h4⟩
      · exact .inl h
      · by_cases hji : j = i
        · subst hji; exact absurd ⟨h0, h3, h4⟩ hc
        · exact .inr ⟨h0, j, by omega, h2, h3, h4⟩
theorem ac7 (hG : jd N L) (hs : mD N s) {d : List aD} (hd : d ∈ qA N L s kind) (hne : 0 < s.length) : pick s d d.length 0 (xq d 0) = KZ s d := by
  have hN := hG.n1
  have qb : ∀ x ∈ s, 0 ≤ x ∧ x < 64 := fun x hx => by have := hs.1 x hx; omega
  rcases (xm hG.n0 L s kind d).1 hd with ⟨p, _, h0, h1, rfl⟩ | ⟨a, _, hsk, rfl⟩
  · rw [FL h0 h1]
    simp only [List.length_singleton, pick]
    rw [if_neg (by omega)]
    rfl
  · rw [FJ qb hsk hne]
    have hna := vI hsk
    have hm := AL L s qb kind a
    have hr : ∀ j (hj : j < (wC L s kind a).length), xq (wC L s kind a) j = (wC L s kind a)[j] := fun j hj => o7 _ j hj
    have hpos := FI (L := L) qb kind a hne
    have hq : (⟨rd s 0, (a : Int)⟩ : aD) ∈ wC L s kind a := (hm _).2 (.inl ⟨FM hne, rfl⟩)
    obtain ⟨j, hj, hjq⟩ := List.getElem_of_mem hq
    refine SK (fun i hi h1 h2 => ?_) _ 0 _ (by omega) ?_
    · have hmi := (hm (xq (wC L s kind a) i)).1 (by rw [hr i hi]; exact List.getElem_mem hi)
      rcases hmi with ⟨_, h3⟩ | ⟨_, _, h3, _⟩
      · generalize xq (wC L s kind a) i = p at h1 h3
        cases p
        simp only at h1 h3
        rw [h1, h3]
      · exact absurd h3 h2
    · by_cases h1 : 1 < (wC L s kind a).length
      · exact .inr ⟨h1, j, by omega, hj, by rw [hr j hj, hjq], by rw [hr j hj, hjq]; exact hna⟩
      · left
        have : j = 0 := by omega
        subst this
        rw [hr 0 hj, hjq]
theorem XR (hs : mD N s) (hsl : s.length ≤ 40) (hne : 0 < s.length) {d : List aD} (hd : d.length ≤ 1000000) {yJ : Int} {c : List Int} {ch : List aD} {ds : List (List aD)} (hch : ch.length ≤ 1000000) {V : List Int × List aD × List (List aD) × Int}
    (hend : ∀ p : aD, p = pick s d d.length 0 (xq d 0) → Ev (fun k => ak.l0 k s (wrap64 (yJ + 1)) c (ch ++ [p]) ds) V) :
    ∀ (n i : Nat), n + i = d.length → ∀ p : aD, pick s d n i p = pick s d d.length 0 (xq d 0) → Ev (fun k => ak.l1 k s yJ d (i : Int) c ch ds p.f0 p.f1) V
  | 0, i, hi, p, hp => by
    refine Ev.succ ?_
    simp only [ak.l1]
    refine Ev.neg (by omega) (Ev.pos (by omega) (hend ⟨p.f0, p.f1⟩ ?_))
    rw [← hp]
    rfl
  | n + 1, i, hi, p, hp => by
    have hlt : i < d.length := by omega
    have ih := XR hs hsl hne hd hch hend n (i + 1) (by omega)
    simp only [pick] at hp
    refine Ev.succ ?_
    simp only [ak.l1, Ck i (by omega)]
    refine Ev.pos (by omega) ?_
    by_cases h1 : 1 < d.length
    · refine Ev.pos (by omega) (Ev.pos (by omega) (Ev.pos (by omega) ?_))
      by_cases h2 : (xq d i).f0 = rd s 0
      · refine Ev.pos h2 (Ev.bind (H9 s _ (by omega)) ?_)
        by_cases h3 : (xq d i).f1 ∈ s
        · rw [if_neg (fun h => h.2.2 h3)] at hp
          exact Ev.pos (decide_eq_true h3) (ih p hp)
        · rw [if_pos ⟨h1, h2, h3⟩] at hp
          exact Ev.neg (fun e => h3 (of_decide_eq_true e)) (ih (xq d i) hp)
      · rw [if_neg (fun h => h2 h.2.1)] at hp
        exact Ev.neg h2 (ih p hp)
    · rw [if_neg (fun h => h1 h.1)] at hp
      exact Ev.neg (by omega) (ih p hp)
theorem XT (hG : jd N L) (hs : mD N s) (hne : 0 < s.length ∨ qA N L s kind = []) (c : List Int) : ∀ (n i : Nat), n + i = (qA N L s kind).length → ∀ ch : List aD, ch.length ≤ i → Ev (fun k => ak.l0 k s (i : Int) c ch (qA N L s kind)) (c, ch ++ ((qA N L s kind).drop i).map (KZ s), qA N L s kind, 0)
  | 0, i, hi, ch, hc => by
    refine Ev.succ ?_
    simp only [ak.l0]
    refine Ev.neg (by omega) ?_
    rw [List.drop_eq_nil_of_le (by omega), List.map_nil, List.append_nil]
    exact Ev.const _
  | n + 1, i, hi, ch, hc => by
    have hN := hG.n1
    have hsl := hs.len hG.n0 hG.n1
    have hdl := JN hG s kind
    have qb : ∀ x ∈ s, 0 ≤ x ∧ x < 64 := fun x hx => by have := hs.1 x hx; omega
    have hlt : i < (qA N L s kind).length := by omega
    have hne' : 0 < s.length := hne.resolve_right (fun e => by rw [e] at hlt; simp at hlt)
    have hm : (qA N L s kind)[i] ∈ qA N L s kind := List.getElem_mem hlt
    have hrd : bC (qA N L s kind) (i : Int) = (qA N L s kind)[i] := by simp [bC, hlt]
    have hpos : 0 < (qA N L s kind)[i].length ∧ (qA N L s kind)[i].length ≤ 1000000 := by
      rcases (xm hG.n0 L s kind _).1 hm with ⟨p, _, _, _, h⟩ | ⟨a, _, hsk, h⟩
      · rw [h]; simp
      · rw [h]
        refine ⟨FI qb kind a hne', ?_⟩
        unfold wC
        rw [(yo _).length_eq]
        unfold Uz
        rw [List.length_append, List.length_map]
        have := DK (fun b => TA L a b && inl s b)
        split
        · rw [List.length_map]; unfold back; omega
        · simp; omega
    have ih := XT hG hs hne c n (i + 1) (by omega)
    refine Ev.succ ?_
    simp only [ak.l0, hrd]
    refine Ev.pos (by omega) (Ev.pos (by omega) (Ev.pos (by omega) ?_))
    refine XR hs hsl hne' hpos.2 (by omega) (fun p hp => ?_) _ 0 (by omega) (xq (qA N L s kind)[i] 0) rfl
    rw [Ck i (by omega)]
    have h2 := ih (ch ++ [p]) (by simp; omega)
    rw [hp, ac7 hG hs hm hne'] at h2 ⊢
    rw [List.drop_eq_getElem_cons hlt, List.map_cons]
    rw [List.append_assoc] at h2
    exact h2
def Mv (N : Int) (L : List aD) (s : List Int) (kind : Int) : List Int × List aD × List (List aD) × Int :=
  if vZ N L s kind = 0 then (if jk N s kind then ([], [], [], 9) else (s, EM N L s kind, qA N L s kind, 0)) else ([], [], [], vZ N L s kind)
theorem XU (hL : L.length ≤ 1000000) (hsl : s.length ≤ 1000000) : Ev (fun k => ak.f k N L s kind) (Mv N L s kind) := by
  simp only [ak.f]
  refine Ev.bind (Xm hL hsl) ?_
  unfold Mv
  by_cases hp : vZ N L s kind = 0
  · rw [if_pos hp]
    refine Ev.pos hp ?_
    obtain ⟨hG, hs, hk⟩ := uY hp
    have hj : ∀ b, b = decide (jk N s kind) → Ev (fun k => ak.j0 k s kind b N L) (if jk N s kind then ([], [], [], 9) else (s, EM N L s kind, qA N L s kind, 0)) := by
      intro b hb
      refine Ev.succ ?_
      simp only [ak.j0]
      by_cases hh : jk N s kind
      · rw [if_pos hh]
        exact Ev.pos (by rw [hb]; exact decide_eq_true hh) (Ev.const _)
      · rw [if_neg hh]
        refine Ev.neg (by rw [hb, decide_eq_false hh]; simp) (Ev.pos (by simp; omega) (Ev.bind (afA hG hs hk) ?_))
        have := XT hG hs (Ex hG.n0 hk hh) ([] ++ s) (qA N L s kind).length 0 (by omega) [] (by simp)
        rw [List.drop_zero, List.nil_append, List.nil_append] at this
        rw [List.nil_append]
        exact this
    by_cases h1 : (s.length : Int) = 0
    · refine Ev.pos h1 ?_
      have hsn : s = [] := List.eq_nil_of_length_eq_zero (by omega)
      by_cases h2 : kind = 2
      · refine Ev.pos h2 (hj _ (decide_eq_decide.2 ?_))
        unfold jk
        constructor
        · intro h; exact ⟨hsn, h2, h⟩
        · intro h; exact h.2.2
      · exact Ev.neg h2 (hj false (by rw [decide_eq_false (fun h => h2 h.2.1)]))
    · exact Ev.neg h1 (hj false (by rw [decide_eq_false (fun h => h1 (by rw [h.1]; rfl))]))
  · rw [if_neg hp]
    exact Ev.neg hp (Ev.const _)
theorem alK (hL : L.length ≤ 1000000) (hsl : s.length ≤ 1000000) : Ev (fun k => ji.f k N L s kind) (Mv N L s kind) := by
  by_cases hp : vZ N L s kind = 0
  · obtain ⟨hG, hs, hk⟩ := uY hp
    have := Nv hG hs hk
    unfold Mv
    rw [if_pos hp]
    exact this
  · simp only [ji.f]
    refine Ev.bind (O9 hL hsl) ?_
    unfold Mv
    rw [if_neg hp]
    exact Ev.neg hp (Ev.const _)
end
end Go.Proofs.YtjmdlmogdbhdhaaDoor.P
namespace Go.Proofs.YtjmdlmogdbhdhaaDoor.P
open Go.RowKit Go.Proofs.YtjmdlmogdbhdhaaDoorW.PrintWords Go.Proofs.YtjmdlmogdbhdhaaDoorW.PrintLast Go.Proofs.YtjmdlmogdbhdhaaDoorW.PrintMore
attribute [local go_sem] iI iJ jP jQ gH gI iK iL
set_option linter.unusedVariables false
set_option linter.unusedSimpArgs false
set_option maxHeartbeats 8000000
set_option maxRecDepth 100000
def cK.l0 : Nat → Int → List Int → List (aD) → List (List (aD)) → List Int → List (aD) → List (List (aD)) → Option (Bool)
 | 0, _, _, _, _, _, _, _ => none
 | k + 1, x5, J2, afB, afC, J3, afD, afE => if x5 < (J2.length : Int) then (if 0 ≤ x5 then (if x5 < (J3.length : Int) then (if (rd J2 x5) = (rd J3 x5) then (cK.l0 k (wrap64 (x5 + 1)) J2 afB afC J3 afD afE) else (some (decide ((rd J2 x5) < (rd J3 x5))))) else (none)) else (none)) else (some false)
def cK.f (k : Nat) (jC : List Int) (ah : List (aD)) (eF : List (List (aD))) (jD : List Int) (kz : List (aD)) (lX : List (List (aD))) : Option (Bool) := if (ah.length : Int) = (kz.length : Int) then (if (jC.length : Int) = (jD.length : Int) then (cK.l0 k 0 jC ah eF jD kz lX) else (some (decide ((jC.length : Int) < (jD.length : Int))))) else (some (decide ((ah.length : Int) < (kz.length : Int))))
theorem cK.calls (k : Nat) (zL : Option Addr) (zM : Nat) (jC : List Int) (aZ : Option Addr) (aW : Nat) (ah : List (aD)) (mg : Option Addr) (mh : Nat) (eF : List (List (aD))) (zN : Option Addr) (zO : Nat) (jD : List Int) (vQ : Option Addr) (vR : Nat) (kz : List (aD)) (zP : Option Addr) (zQ : Nat) (lX : List (List (aD))) (r : Bool) (w : World) (SL : Kd.C (Kd.int .i64) w zL jC.length jC) (SQ : jC.length ≤ zM) (eY : Kd.C gm w aZ ah.length ah) (eZ : ah.length ≤ aW) (tH : Kd.C (Kd.slice 42 gm) w mg eF.length eF) (tJ : eF.length ≤ mh) (SS : Kd.C (Kd.int .i64) w zN jD.length jD) (SV : jD.length ≤ zO) (IZ : Kd.C gm w vQ kz.length kz) (I1 : kz.length ≤ vR) (SX : Kd.C (Kd.slice 42 gm) w zP lX.length lX) (SY : lX.length ≤ zQ) (h : cK.f k jC ah eF jD kz lX = some r) :
 Calls Tryd.prog 56 #[.agg #[.slice zL jC.length zM, .slice aZ ah.length aW, .slice mg eF.length mh], .agg #[.slice zN jD.length zO, .slice vQ kz.length vR, .slice zP lX.length zQ]] w fun e w' => e = .returned (.bool r) ∧ Below w.heap.size w w' := by
 have Mo := Tryd.underlying28; have NL := zA SL; have aq9 := zA SQ; clear SL SQ; have cz := zA eY; have dX := zA eZ; clear eY eZ; have vT := zA tH; have yS := zA tJ; clear tH tJ; have NM := zA SS; have ara := zA SV; clear SS SV; have MV := zA IZ; have MW := zA I1; clear IZ I1; have ac8 := zA SX; have arb := zA SY; clear SX SY; have HB := zA (Below.refl w.heap.size w); have H : (if (ah.length : Int) = (kz.length : Int) then (if (jC.length : Int) = (jD.length : Int) then (cK.l0 k 0 jC ah eF jD kz lX) else (some (decide ((jC.length : Int) < (jD.length : Int))))) else (some (decide ((ah.length : Int) < (kz.length : Int))))) = some r := h; clear h; by_cases c3 : (ah.length : Int) = (kz.length : Int)
 · rw [if_pos c3] at H; have zF : ((ah.length : Int) == (kz.length : Int)) = true := beq_iff_eq.mpr c3; have TV : ((ah.length : Int) != (kz.length : Int)) = false := bne_eq_false_iff_eq.mpr c3; have ajf : (ah.length == kz.length) = true := by first | simpa using c3 | (simp at c3 ⊢; omega)
   clear c3; by_cases c4 : (jC.length : Int) = (jD.length : Int)
   · rw [if_pos c4] at H; have qU : ((jC.length : Int) == (jD.length : Int)) = true := beq_iff_eq.mpr c4; have Om : ((jC.length : Int) != (jD.length : Int)) = false := bne_eq_false_iff_eq.mpr c4; have ao2 : (jC.length == jD.length) = true := by first | simpa using c4 | (simp at c4 ⊢; omega)
     clear c4; have H' := zA H; clear H; go_enter Tryd.func56, Tryd.ntmps56; go_wp2_with (first | ((with_reducible refine aH (N := 2) rfl ?_); refine zX (N := 2) (cs := #[.slice zL jC.length zM, .slice aZ ah.length aW, .slice mg eF.length mh]) (t := 28) ?_; intro Gq hg w5 aG hb; have iP := zA (aG); have Jf := zA (zW hg HB); have Jg := zA (zW hg HB); replace HB := zA (af (zB HB) hb); clear hb aG hg) | ((with_reducible refine aH (N := 3) rfl ?_); refine zX (N := 3) (cs := #[.slice zN jD.length zO, .slice vQ kz.length vR, .slice zP lX.length zQ]) (t := 28) ?_; intro Gr hg w6 aG hb; have rU := zA (aG); have Jh := zA (zW hg HB); have Ji := zA (zW hg HB); have jV := zA (lZ hg iP); have jW := zA (l5 hg iP); replace iP := zA (dn iP hb); replace HB := zA (af (zB HB) hb); clear hb aG hg; have aee := jV.out; have aef := jW.out; obtain ⟨_, _, _, _, _, _⟩ := nG iP; obtain ⟨_, _, _, _, _, _⟩ := nG rU)); repeat (go_quiet (first | ((with_reducible refine aH (N := 2) rfl ?_); refine zX (N := 2) (cs := #[.slice zL jC.length zM, .slice aZ ah.length aW, .slice mg eF.length mh]) (t := 28) ?_; intro Gq hg w5 aG hb; have iP := zA (aG); have Jf := zA (zW hg HB); have Jg := zA (zW hg HB); replace HB := zA (af (zB HB) hb); clear hb aG hg) | ((with_reducible refine aH (N := 3) rfl ?_); refine zX (N := 3) (cs := #[.slice zN jD.length zO, .slice vQ kz.length vR, .slice zP lX.length zQ]) (t := 28) ?_; intro Gr hg w6 aG hb; have rU := zA (aG); have Jh := zA (zW hg HB); have Ji := zA (zW hg HB); have jV := zA (lZ hg iP); have jW := zA (l5 hg iP); replace iP := zA (dn iP hb); replace HB := zA (af (zB HB) hb); clear hb aG hg; have aee := jV.out; have aef := jW.out; obtain ⟨_, _, _, _, _, _⟩ := nG iP; obtain ⟨_, _, _, _, _, _⟩ := nG rU)); try go_wp2_with (first | ((with_reducible refine aH (N := 2) rfl ?_); refine zX (N := 2) (cs := #[.slice zL jC.length zM, .slice aZ ah.length aW, .slice mg eF.length mh]) (t := 28) ?_; intro Gq hg w5 aG hb; have iP := zA (aG); have Jf := zA (zW hg HB); have Jg := zA (zW hg HB); replace HB := zA (af (zB HB) hb); clear hb aG hg) | ((with_reducible refine aH (N := 3) rfl ?_); refine zX (N := 3) (cs := #[.slice zN jD.length zO, .slice vQ kz.length vR, .slice zP lX.length zQ]) (t := 28) ?_; intro Gr hg w6 aG hb; have rU := zA (aG); have Jh := zA (zW hg HB); have Ji := zA (zW hg HB); have jV := zA (lZ hg iP); have jW := zA (l5 hg iP); replace iP := zA (dn iP hb); replace HB := zA (af (zB HB) hb); clear hb aG hg; have aee := jV.out; have aef := jW.out; obtain ⟨_, _, _, _, _, _⟩ := nG iP; obtain ⟨_, _, _, _, _, _⟩ := nG rU)))
     go_loopg [5] k (fun kq v5 w' => ∃ (bL : Int), v5 = .int .i64 bL ∧ ag (cK.l0 kq bL jC ah eF jD kz lX = some r) ∧ ag (kq ≤ k) ∧ ag (w'.heap[Gq]? = some (.cells #[(.slice zL jC.length zM), (.slice aZ ah.length aW), (.slice mg eF.length mh)] 28 (0, 0))) ∧ ag (w'.heap[Gr]? = some (.cells #[(.slice zN jD.length zO), (.slice vQ kz.length vR), (.slice zP lX.length zQ)] 28 (0, 0))) ∧ ag (Below w.heap.size w w'))
     case atStart => exact ⟨(0), zv, H', ⟨Nat.le_refl _⟩, ⟨zK iP⟩, ⟨zK rU⟩, ⟨zB HB⟩⟩
     case round =>
      clear H'
      obtain ⟨bL, rfl, HA, iU, iP, rU, HB⟩ := hrel; cases gk with
      | zero => exact absurd HA.out (by simp [cK.l0])
      | succ k1 =>
       have H := HA.out; clear HA; simp only [cK.l0] at H; by_cases c10 : bL < (jC.length : Int)
       · rw [if_pos c10] at H; have rR := decide_eq_true c10; clear c10; by_cases c11 : 0 ≤ bL
         · rw [if_pos c11] at H; have EY := decide_eq_true c11; clear c11; by_cases c12 : bL < (jD.length : Int)
           · rw [if_pos c12] at H; have Aj := decide_eq_true c12; clear c12; by_cases c13 : (rd jC bL) = (rd jD bL)
             · rw [if_pos c13] at H; have RU : ((rd jC bL) == (rd jD bL)) = true := beq_iff_eq.mpr c13; have acY : ((rd jC bL) != (rd jD bL)) = false := bne_eq_false_iff_eq.mpr c13; clear c13; have H' := zA H; clear H; have Kq := jV.out; have Kr := jW.out; obtain ⟨_, _, _, _, _, _⟩ := nG iP; have Vk : 0 ≤ (bL : Int) := zo; have Vl : bL < (jC.length : Int) := zo; obtain ⟨ah1, alL, Gs⟩ := Kd.eP NL.out bL Vk Vl; cases alL; replace Gs := (zx HB Gs :); replace Vk := eq_true Vk; replace Vl := eq_true Vl; obtain ⟨_, _, _, _, _, _⟩ := nG rU; have Vm : 0 ≤ (bL : Int) := zo; have Vn : bL < (jD.length : Int) := zo; obtain ⟨ah2, alM, Gt⟩ := Kd.eP NM.out bL Vm Vn; cases alM; replace Gt := (zx HB Gt :); replace Vm := eq_true Vm; replace Vn := eq_true Vn; go_wp2; repeat (go_quiet (fail); try go_wp2)
               go_roundg k1
               case measure => have := iU.out; omega
               case rel => exact ⟨(wrap64 (bL + 1)), zv, H', ⟨by have := iU.out; omega⟩, ⟨zK iP⟩, ⟨zK rU⟩, ⟨zB HB⟩⟩
             · rw [if_neg c13] at H; have RU : ((rd jC bL) == (rd jD bL)) = false := beq_eq_false_iff_ne.mpr c13; have acY : ((rd jC bL) != (rd jD bL)) = true := bne_iff_ne.mpr c13; obtain rfl := Option.some.inj H; have Xn := jV.out; have Xo := jW.out; obtain ⟨_, _, _, _, _, _⟩ := nG iP; have Vk : 0 ≤ (bL : Int) := zo; have Vl : bL < (jC.length : Int) := zo; obtain ⟨ah1, alL, Gs⟩ := Kd.eP NL.out bL Vk Vl; cases alL; replace Gs := (zx HB Gs :); replace Vk := eq_true Vk; replace Vl := eq_true Vl; obtain ⟨_, _, _, _, _, _⟩ := nG rU; have Vm : 0 ≤ (bL : Int) := zo; have Vn : bL < (jD.length : Int) := zo; obtain ⟨ah2, alM, Gt⟩ := Kd.eP NM.out bL Vm Vn; cases alM; replace Gt := (zx HB Gt :); replace Vm := eq_true Vm; replace Vn := eq_true Vn; have alN : 0 ≤ (bL : Int) := zo; have alO : bL < (jC.length : Int) := zo; obtain ⟨arc, av5, XV⟩ := Kd.eP NL.out bL alN alO; obtain rfl : ah1 = arc := (by injection av5); replace XV := (zx HB XV :); replace alN := eq_true alN; replace alO := eq_true alO; have alP : 0 ≤ (bL : Int) := zo; have alQ : bL < (jD.length : Int) := zo; obtain ⟨ard, av6, XW⟩ := Kd.eP NM.out bL alP alQ; obtain rfl : ah2 = ard := (by injection av6); replace XW := (zx HB XW :); replace alP := eq_true alP; replace alQ := eq_true alQ; go_wp2; repeat (go_quiet (fail); try go_wp2)
               go_ret; exact ⟨ze, zB HB⟩
           · rw [if_neg c12] at H; exact absurd H (by simp)
         · rw [if_neg c11] at H; exact absurd H (by simp)
       · rw [if_neg c10] at H; have rR := decide_eq_false c10; clear c10; obtain rfl := Option.some.inj H; have agl := jV.out; have agm := jW.out; obtain ⟨_, _, _, _, _, _⟩ := nG iP; go_wp2; repeat (go_quiet (fail); try go_wp2)
         go_ret; exact ⟨ze, zB HB⟩
   · rw [if_neg c4] at H; have qU : ((jC.length : Int) == (jD.length : Int)) = false := beq_eq_false_iff_ne.mpr c4; have Om : ((jC.length : Int) != (jD.length : Int)) = true := bne_iff_ne.mpr c4; have ao2 : (jC.length == jD.length) = false := by first | simpa using c4 | (simp at c4 ⊢; omega)
     obtain rfl := Option.some.inj H; go_enter Tryd.func56, Tryd.ntmps56; go_wp2_with (first | ((with_reducible refine aH (N := 2) rfl ?_); refine zX (N := 2) (cs := #[.slice zL jC.length zM, .slice aZ ah.length aW, .slice mg eF.length mh]) (t := 28) ?_; intro Gq hg w22 aG hb; have iP := zA (aG); have Jf := zA (zW hg HB); have Jg := zA (zW hg HB); replace HB := zA (af (zB HB) hb); clear hb aG hg) | ((with_reducible refine aH (N := 3) rfl ?_); refine zX (N := 3) (cs := #[.slice zN jD.length zO, .slice vQ kz.length vR, .slice zP lX.length zQ]) (t := 28) ?_; intro Gr hg w23 aG hb; have rU := zA (aG); have Jh := zA (zW hg HB); have Ji := zA (zW hg HB); have jV := zA (lZ hg iP); have jW := zA (l5 hg iP); replace iP := zA (dn iP hb); replace HB := zA (af (zB HB) hb); clear hb aG hg; have acF := jV.out; have acG := jW.out; obtain ⟨_, _, _, _, _, _⟩ := nG iP; obtain ⟨_, _, _, _, _, _⟩ := nG rU)); repeat (go_quiet (first | ((with_reducible refine aH (N := 2) rfl ?_); refine zX (N := 2) (cs := #[.slice zL jC.length zM, .slice aZ ah.length aW, .slice mg eF.length mh]) (t := 28) ?_; intro Gq hg w22 aG hb; have iP := zA (aG); have Jf := zA (zW hg HB); have Jg := zA (zW hg HB); replace HB := zA (af (zB HB) hb); clear hb aG hg) | ((with_reducible refine aH (N := 3) rfl ?_); refine zX (N := 3) (cs := #[.slice zN jD.length zO, .slice vQ kz.length vR, .slice zP lX.length zQ]) (t := 28) ?_; intro Gr hg w23 aG hb; have rU := zA (aG); have Jh := zA (zW hg HB); have Ji := zA (zW hg HB); have jV := zA (lZ hg iP); have jW := zA (l5 hg iP); replace iP := zA (dn iP hb); replace HB := zA (af (zB HB) hb); clear hb aG hg; have acF := jV.out; have acG := jW.out; obtain ⟨_, _, _, _, _, _⟩ := nG iP; obtain ⟨_, _, _, _, _, _⟩ := nG rU)); try go_wp2_with (first | ((with_reducible refine aH (N := 2) rfl ?_); refine zX (N := 2) (cs := #[.slice zL jC.length zM, .slice aZ ah.length aW, .slice mg eF.length mh]) (t := 28) ?_; intro Gq hg w22 aG hb; have iP := zA (aG); have Jf := zA (zW hg HB); have Jg := zA (zW hg HB); replace HB := zA (af (zB HB) hb); clear hb aG hg) | ((with_reducible refine aH (N := 3) rfl ?_); refine zX (N := 3) (cs := #[.slice zN jD.length zO, .slice vQ kz.length vR, .slice zP lX.length zQ]) (t := 28) ?_; intro Gr hg w23 aG hb; have rU := zA (aG); have Jh := zA (zW hg HB); have Ji := zA (zW hg HB); have jV := zA (lZ hg iP); have jW := zA (l5 hg iP); replace iP := zA (dn iP hb); replace HB := zA (af (zB HB) hb); clear hb aG hg; have acF := jV.out; have acG := jW.out; obtain ⟨_, _, _, _, _, _⟩ := nG iP; obtain ⟨_, _, _, _, _, _⟩ := nG rU)))
     go_ret; exact ⟨ze, zB HB⟩
 · rw [if_neg c3] at H; have zF : ((ah.length : Int) == (kz.length : Int)) = false := beq_eq_false_iff_ne.mpr c3; have TV : ((ah.length : Int) != (kz.length : Int)) = true := bne_iff_ne.mpr c3; have ajf : (ah.length == kz.length) = false := by first | simpa using c3 | (simp at c3 ⊢; omega)
   obtain rfl := Option.some.inj H; go_enter Tryd.func56, Tryd.ntmps56; go_wp2_with (first | ((with_reducible refine aH (N := 2) rfl ?_); refine zX (N := 2) (cs := #[.slice zL jC.length zM, .slice aZ ah.length aW, .slice mg eF.length mh]) (t := 28) ?_; intro Gq hg Zk aG hb; have iP := zA (aG); have Jf := zA (zW hg HB); have Jg := zA (zW hg HB); replace HB := zA (af (zB HB) hb); clear hb aG hg) | ((with_reducible refine aH (N := 3) rfl ?_); refine zX (N := 3) (cs := #[.slice zN jD.length zO, .slice vQ kz.length vR, .slice zP lX.length zQ]) (t := 28) ?_; intro Gr hg w28 aG hb; have rU := zA (aG); have Jh := zA (zW hg HB); have Ji := zA (zW hg HB); have jV := zA (lZ hg iP); have jW := zA (l5 hg iP); replace iP := zA (dn iP hb); replace HB := zA (af (zB HB) hb); clear hb aG hg; have QG := jV.out; have QH := jW.out; obtain ⟨_, _, _, _, _, _⟩ := nG iP; obtain ⟨_, _, _, _, _, _⟩ := nG rU)); repeat (go_quiet (first | ((with_reducible refine aH (N := 2) rfl ?_); refine zX (N := 2) (cs := #[.slice zL jC.length zM, .slice aZ ah.length aW, .slice mg eF.length mh]) (t := 28) ?_; intro Gq hg Zk aG hb; have iP := zA (aG); have Jf := zA (zW hg HB); have Jg := zA (zW hg HB); replace HB := zA (af (zB HB) hb); clear hb aG hg) | ((with_reducible refine aH (N := 3) rfl ?_); refine zX (N := 3) (cs := #[.slice zN jD.length zO, .slice vQ kz.length vR, .slice zP lX.length zQ]) (t := 28) ?_; intro Gr hg w28 aG hb; have rU := zA (aG); have Jh := zA (zW hg HB); have Ji := zA (zW hg HB); have jV := zA (lZ hg iP); have jW := zA (l5 hg iP); replace iP := zA (dn iP hb); replace HB := zA (af (zB HB) hb); clear hb aG hg; have QG := jV.out; have QH := jW.out; obtain ⟨_, _, _, _, _, _⟩ := nG iP; obtain ⟨_, _, _, _, _, _⟩ := nG rU)); try go_wp2_with (first | ((with_reducible refine aH (N := 2) rfl ?_); refine zX (N := 2) (cs := #[.slice zL jC.length zM, .slice aZ ah.length aW, .slice mg eF.length mh]) (t := 28) ?_; intro Gq hg Zk aG hb; have iP := zA (aG); have Jf := zA (zW hg HB); have Jg := zA (zW hg HB); replace HB := zA (af (zB HB) hb); clear hb aG hg) | ((with_reducible refine aH (N := 3) rfl ?_); refine zX (N := 3) (cs := #[.slice zN jD.length zO, .slice vQ kz.length vR, .slice zP lX.length zQ]) (t := 28) ?_; intro Gr hg w28 aG hb; have rU := zA (aG); have Jh := zA (zW hg HB); have Ji := zA (zW hg HB); have jV := zA (lZ hg iP); have jW := zA (l5 hg iP); replace iP := zA (dn iP hb); replace HB := zA (af (zB HB) hb); clear hb aG hg; have QG := jV.out; have QH := jW.out; obtain ⟨_, _, _, _, _, _⟩ := nG iP; obtain ⟨_, _, _, _, _, _⟩ := nG rU)))
   go_ret; exact ⟨ze, zB HB⟩
end Go.Proofs.YtjmdlmogdbhdhaaDoor.P
