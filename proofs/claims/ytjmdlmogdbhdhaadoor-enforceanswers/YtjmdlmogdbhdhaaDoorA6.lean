import Derived.Deep.DeepMust
import Derived.RegionTactic
import Derived.Test.YtjmdlmogdbhdhaaDoorA2
import Derived.Test.YtjmdlmogdbhdhaaDoorA4
import Derived.Test.YtjmdlmogdbhdhaaDoorA3
import Derived.Test.YtjmdlmogdbhdhaaDoorA5
namespace Go.Proofs.YtjmdlmogdbhdhaaDoor.P
open Go.RowKit Go.Proofs.YtjmdlmogdbhdhaaDoorW.PrintWords Go.Proofs.YtjmdlmogdbhdhaaDoorW.PrintLast Go.Proofs.YtjmdlmogdbhdhaaDoorW.PrintMore
attribute [local go_sem] iI iJ jP jQ gH gI iK iL
set_option linter.unusedVariables false
set_option linter.unusedSimpArgs false
set_option maxHeartbeats 8000000
set_option maxRecDepth 100000
mutual
def az.l0 : Nat → List Int → Int → List Int → Int → Int → List (aD) → Option (List Int × (List (aD)) × (List (List (aD))) × Int)
 | 0, _, _, _, _, _, _ => none
 | k + 1, x1, x2, x9, yJ, ny, oJ => if yJ < ny then ((bM.f k x1 yJ).bind fun alR => (if alR = true then (az.l0 k x1 x2 x9 (wrap64 (yJ + 1)) ny oJ) else (if x9.length < 17592186044416 then (az.l0 k x1 x2 (x9 ++ [yJ]) (wrap64 (yJ + 1)) ny oJ) else (none)))) else (if (x9.length : Int) > 10 then (some (([] : List Int), ([] : List (aD)), ([] : List (List (aD))), 2)) else (az.l1 k x1 x2 x9 false 0 ny oJ ([] : List Int) ([] : List (aD)) ([] : List (List (aD)))))
def az.l1 : Nat → List Int → Int → List Int → Bool → Int → Int → List (aD) → List Int → List (aD) → List (List (aD)) → Option (List Int × (List (aD)) × (List (List (aD))) × Int)
 | 0, _, _, _, _, _, _, _, _, _, _ => none
 | k + 1, x1, x2, x9, wK, wo, ny, oJ, rM, rO, rP => if 0 ≤ (IntKind.u64.wrap ((x9.length : Int))) then (if wo < (shl .i64 1 (IntKind.u64.wrap ((x9.length : Int)))) then (az.l2 k x1 x2 x9 wK wo ([] : List Int) 0 ny oJ rM rO rP) else (some (rM, rO, rP, 0))) else (none)
def az.l2 : Nat → List Int → Int → List Int → Bool → Int → List Int → Int → Int → List (aD) → List Int → List (aD) → List (List (aD)) → Option (List Int × (List (aD)) × (List (List (aD))) × Int)
 | 0, _, _, _, _, _, _, _, _, _, _, _, _ => none
 | k + 1, x1, x2, x9, wK, wo, zH, Mh, ny, oJ, rM, rO, rP => if Mh < ny then ((bM.f k x1 Mh).bind fun afF => (az.l3 k x1 x2 x9 wK wo zH Mh afF 0 ny oJ rM rO rP)) else ((ak.f k ny oJ zH x2).bind fun Ep => (if Ep.2.2.2 = 0 then (if wK = true then ((cK.f k Ep.1 Ep.2.1 Ep.2.2.1 rM rO rP).bind fun alS => (if alS = true then (az.l1 k x1 x2 x9 true (wrap64 (wo + 1)) ny oJ Ep.1 Ep.2.1 Ep.2.2.1) else (az.l1 k x1 x2 x9 wK (wrap64 (wo + 1)) ny oJ rM rO rP))) else (az.l1 k x1 x2 x9 true (wrap64 (wo + 1)) ny oJ Ep.1 Ep.2.1 Ep.2.2.1)) else (az.l1 k x1 x2 x9 wK (wrap64 (wo + 1)) ny oJ rM rO rP)))
def az.l3 : Nat → List Int → Int → List Int → Bool → Int → List Int → Int → Bool → Int → Int → List (aD) → List Int → List (aD) → List (List (aD)) → Option (List Int × (List (aD)) × (List (List (aD))) × Int)
 | 0, _, _, _, _, _, _, _, _, _, _, _, _, _, _ => none
 | k + 1, x1, x2, x9, wK, wo, zH, Mh, Jn, x17, ny, oJ, rM, rO, rP => if x17 < (x9.length : Int) then (if Jn = true then (az.l3 k x1 x2 x9 wK wo zH Mh true (wrap64 (x17 + 1)) ny oJ rM rO rP) else (if 0 ≤ x17 then (if (rd x9 x17) = Mh then (if 0 ≤ (IntKind.u64.wrap (x17)) then (az.l3 k x1 x2 x9 wK wo zH Mh ((Go.bits .and .i64 (shr .i64 wo (IntKind.u64.wrap (x17))) 1) == 1) (wrap64 (x17 + 1)) ny oJ rM rO rP) else (none)) else (az.l3 k x1 x2 x9 wK wo zH Mh false (wrap64 (x17 + 1)) ny oJ rM rO rP)) else (none))) else (if Jn = true then (if zH.length < 17592186044416 then (az.l2 k x1 x2 x9 wK wo (zH ++ [Mh]) (wrap64 (Mh + 1)) ny oJ rM rO rP) else (none)) else (az.l2 k x1 x2 x9 wK wo zH (wrap64 (Mh + 1)) ny oJ rM rO rP))
end
def az.f (k : Nat) (au : Int) (ah : List (aD)) (l1 : List Int) (a2 : Int) : Option (List Int × (List (aD)) × (List (List (aD))) × Int) := (bI.f k au ah l1 a2).bind fun Iq => (if Iq = 0 then (az.l0 k l1 a2 ([] : List Int) 0 au ah) else (some (([] : List Int), ([] : List (aD)), ([] : List (List (aD))), Iq)))
theorem az.calls (k : Nat) (au : Int) (aZ : Option Addr) (aW : Nat) (ah : List (aD)) (A1 : Option Addr) (c1 : Nat) (l1 : List Int) (a2 : Int) (r1 : List Int) (r2 : List (aD)) (r3 : List (List (aD))) (r4 : Int) (w : World) (eY : Kd.C gm w aZ ah.length ah) (eZ : ah.length ≤ aW) (hr1 : Kd.C (Kd.int .i64) w A1 l1.length l1) (hc1 : l1.length ≤ c1) (h : az.f k au ah l1 a2 = some (r1, r2, r3, r4)) :
 Calls Tryd.prog 26 #[.agg #[.int .i64 au, .slice aZ ah.length aW], .slice A1 l1.length c1, .int .i64 a2] w fun e w' => ∃ Db C8 P9 : Value, e = .returned (.tuple #[.agg #[Db, C8, P9], .int .i64 r4]) ∧ Kd.R (Kd.int .i64) 3 w' w.heap.size (fun _ => True) Db r1 ∧ Kd.R gm 42 w' w.heap.size (fun _ => True) C8 r2 ∧ Kd.S (Kd.slice 42 gm) 22 w' w.heap.size (fun k_ => some k_ ≠ (C8 : Value).ownBlock) P9 r3 ∧ Below w.heap.size w w' := by
 have uk := Tryd.underlying24; have Mo := Tryd.underlying28; have cz := zA eY; have dX := zA eZ; clear eY eZ; have HR1 := zA hr1; have rX := zA hc1; clear hr1 hc1; have HB := zA (Below.refl w.heap.size w); have H : ((bI.f k au ah l1 a2).bind fun Iq => (if Iq = 0 then (az.l0 k l1 a2 ([] : List Int) 0 au ah) else (some (([] : List Int), ([] : List (aD)), ([] : List (List (aD))), Iq)))) = some (r1, r2, r3, r4) := h; clear h; replace H := zE H; obtain ⟨Iq, A4, H⟩ := H; (try dsimp only at H); by_cases c5 : Iq = 0
 · rw [if_pos c5] at H; have pM : (Iq == 0) = true := beq_iff_eq.mpr c5; have yh : (Iq != 0) = false := bne_eq_false_iff_eq.mpr c5; clear c5; have H' := zA H; clear H; go_enter Tryd.func26, Tryd.ntmps26; go_wp2_with (first | ((with_reducible refine aH (N := 3) rfl ?_); refine zX (N := 3) (cs := #[.int .i64 au, .slice aZ ah.length aW]) (t := 24) ?_; intro Gu hg w6 aG hb; have fI := zA (aG); have arf := zA (zW hg HB); have arh := zA (zW hg HB); replace HB := zA (af (zB HB) hb); clear hb aG hg) | ((with_reducible refine aH (N := 6) rfl ?_); refine zX (N := 6) (cs := #[.slice none 0 0, .slice none 0 0, .slice none 0 0]) (t := 28) ?_; intro sI hg w7 aG hb; have gF := zA (aG); have ari := zA (zW hg HB); have arj := zA (zW hg HB); have oq := zA (lZ hg fI); have ou := zA (l5 hg fI); replace fI := zA (dn fI hb); replace HB := zA (af (zB HB) hb); clear hb aG hg; have anl := oq.out; have anm := ou.out; obtain ⟨_, _, _, _⟩ := iG fI) | ((with_reducible refine ay (f := 32) rfl ?_); refine zG (some 23) rfl Tryd.func32 #[.agg #[.int .i64 au, .slice aZ ah.length aW], .slice A1 l1.length c1, .int .i64 a2] ?_; (with_reducible refine (bI.calls k au _ _ ah _ _ l1 a2 Iq _ ?aI ?aN ?bS ?bT A4.out).mono ?_); (case aI => exact jB cz HB); (case aN => exact dX.out); (case bS => exact jB HR1 HB); (case bT => exact rX.out); rintro e yu ⟨rfl, hb⟩; refine ⟨_, rfl, ?_⟩; replace fI := zA (dn fI hb); replace gF := zA (dn gF hb); replace HB := zA (af (zB HB) hb))); go_loopg [9, 10] k (fun kq v9 v10 w' => ∃ (iR : List Int) (zm : Int), v10 = .int .i64 zm ∧ ag (az.l0 kq l1 a2 iR zm au ah = some (r1, r2, r3, r4)) ∧ ag (kq ≤ k) ∧ ag (Kd.R (Kd.int .i64) 3 w' w.heap.size (fun _ => True) v9 iR) ∧ ag (w'.heap[Gu]? = some (.cells #[.int .i64 au, (.slice aZ ah.length aW)] 24 (0, 0))) ∧ ag (w'.heap[sI]? = some (.cells #[(.slice none 0 0), (.slice none 0 0), (.slice none 0 0)] 28 (0, 0))) ∧ ag (Below w.heap.size w w'))
   case atStart => exact ⟨(([] : List Int)), (0), zv, H', ⟨Nat.le_refl _⟩, ⟨Ab⟩, ⟨zK fI⟩, ⟨zK gF⟩, ⟨zB HB⟩⟩
   case round =>
    clear H'
    obtain ⟨iR, zm, rfl, HA, iU, fF, fI, gF, HB⟩ := hrel; cases gk with
    | zero => exact absurd HA.out (by simp [az.l0])
    | succ k1 =>
     have H := HA.out; clear HA; simp only [az.l0] at H; by_cases c11 : zm < au
     · rw [if_pos c11] at H; have EY := decide_eq_true c11; clear c11; replace H := zE H; obtain ⟨alR, A12, H⟩ := H; (try dsimp only at H); by_cases c13 : alR = true
       · subst c13; rw [if_pos rfl] at H; have H' := zA H; clear H; have Kq := oq.out; have Kr := ou.out; obtain ⟨_, _, _, _⟩ := iG fI; go_wp2_with (first | ((with_reducible refine ay (f := 34) rfl ?_); refine zG (some 36) rfl Tryd.func34 #[.slice A1 l1.length c1, .int .i64 zm] ?_; (with_reducible refine (bM.calls k1 _ _ l1 zm true _ ?aI ?aN A12.out).mono ?_); (case aI => exact jB HR1 HB); (case aN => exact rX.out); rintro e w' ⟨rfl, ⟨nd, rfl⟩⟩; refine ⟨_, rfl, ?_⟩)); go_roundg k1
         case measure => have := iU.out; omega
         case rel => exact ⟨(iR), (wrap64 (zm + 1)), zv, H', ⟨by have := iU.out; omega⟩, ⟨zR fF⟩, ⟨zK fI⟩, ⟨zK gF⟩, ⟨zB HB⟩⟩
       · replace c13 := Bool.eq_false_iff.mpr c13; subst c13; rw [if_neg (show ¬ (false = true) by decide)] at H; by_cases c16 : iR.length < 17592186044416
         · rw [if_pos c16] at H; have acu := zA c16; clear c16; obtain ⟨ark, S9⟩ : ∃ y_ : List Int, y_ = (iR ++ [zm]) := ⟨_, rfl⟩; replace H : (az.l0 k1 l1 a2 ark (wrap64 (zm + 1)) au ah) = some (r1, r2, r3, r4) := by first | (rw [S9]; with_reducible exact H) | (have iW := (Option.bind_some _ _).symm.trans H; rw [S9]; with_reducible exact iW) | (have iW := (Option.bind_some _ _).symm.trans H; with_reducible exact iW) | with_reducible exact H | (rw [S9]; exact H) | exact H
           have arl := zA S9; clear S9; have H' := zA H; clear H; have Xn := oq.out; have Xo := ou.out; obtain ⟨_, _, _, _⟩ := iG fI; go_wp2_with (first | ((with_reducible refine ay (f := 34) rfl ?_); refine zG (some 36) rfl Tryd.func34 #[.slice A1 l1.length c1, .int .i64 zm] ?_; (with_reducible refine (bM.calls k1 _ _ l1 zm false _ ?aI ?aN A12.out).mono ?_); (case aI => exact jB HR1 HB); (case aN => exact rX.out); rintro e w' ⟨rfl, ⟨nd, rfl⟩⟩; refine ⟨_, rfl, ?_⟩) | ((with_reducible refine fZ (b := .append) (xs := #[.tmp 38, .tmp 40]) rfl ?_); at_builtin; refine Kd.oz (Kd.int .i64) (w0 := w) w.heap.size rfl (.tmp 38) (.tmp 40) 25 3 (.int .i64 0) 8 rfl Tryd.underlying25 info3 rfl (by decide) (by omega) u9 iR zm [.int .i64 zm] (fun _ => True) (fun _ => False) rfl rfl ?aP (fun _ hk => hk.elim) ?aF ?aO ?aB ?aS ?aL ?_; (case aP => exact rfl); (case aB => exact (zB HB)); (case aF => exact (fun _ _ => trivial)); (case aO => exact (zR fF)); (case aS => exact (aJ (zB HB))); (case aL => have := acu.out; omega); intro aDp w19 ho hb hg hat; rw [← arl.out] at ho; have arn := zA (ho); replace fI := zA (bZ (g := Gu) (o := .cells #[.int .i64 au, .slice aZ ah.length aW] 24 (0, 0)) (zK fI) hg (Kd.oK fF.out fI.out (by decide))); replace gF := zA (bZ (g := sI) (o := .cells #[.slice none 0 0, .slice none 0 0, .slice none 0 0] 28 (0, 0)) (zK gF) hg (Kd.oK fF.out gF.out (by decide))); replace HB := zA (hb); clear fF; clear ho hb hg hat)); go_roundg k1
           case measure => have := iU.out; omega
           case rel => exact ⟨(ark), (wrap64 (zm + 1)), zv, H', ⟨by have := iU.out; omega⟩, ⟨zR arn⟩, ⟨zK fI⟩, ⟨zK gF⟩, ⟨zB HB⟩⟩
         · rw [if_neg c16] at H; exact absurd H (by simp)
     · rw [if_neg c11] at H; have EY := decide_eq_false c11; clear c11; by_cases c20 : (iR.length : Int) > 10
       · rw [if_pos c20] at H; have Fx := decide_eq_true c20; have aro : decide (10 < iR.length) = true := decide_eq_true (by omega); clear c20; simp only [Option.some.injEq, Prod.mk.injEq] at H; obtain ⟨rfl, rfl, rfl, rfl⟩ := H; have VX := oq.out; have VY := ou.out; obtain ⟨_, _, _, _⟩ := iG fI; obtain ⟨PE, PG, alT⟩ := Kd.bD fF.out; subst alT; obtain ⟨_, _, _, _, _, _⟩ := nG gF; go_wp2; refine bodyPost_ret (iw rfl _ _ sI 28 #[.slice none 0 0, .slice none 0 0, .slice none 0 0] (0, 0) _ rfl (by refine zk ?_; refine aV (cs := #[.slice none 0 0, .slice none 0 0, .slice none 0 0]) ?_ 2 _ rfl; refine zk ?_; refine aV (cs := #[.slice none 0 0, .slice none 0 0, .slice none 0 0]) ?_ 1 _ rfl; refine zk ?_; refine aV (cs := #[.slice none 0 0, .slice none 0 0, .slice none 0 0]) ?_ 0 _ rfl; refine zk ?_; exact gF.out) Tryd.underlying28 rfl (by kernel_rfl)) rfl ?_; exact ⟨_, _, _, ze, Ab, Ab, Ab, zB HB⟩
       · rw [if_neg c20] at H; have Fx := decide_eq_false c20; have aro : decide (10 < iR.length) = false := decide_eq_false (by omega); clear c20; have H' := zA H; clear H; have agp := oq.out; have agq := ou.out; obtain ⟨_, _, _, _⟩ := iG fI; obtain ⟨C9, Da, ai9⟩ := Kd.bD fF.out; subst ai9; go_wp2_with (first | ((with_reducible refine aH (N := 11) rfl ?_); refine zX (N := 11) (cs := #[.slice none 0 0, .slice none 0 0, .slice none 0 0]) (t := 28) ?_; intro oN hg w28 aG hb; have iQ := zA (aG); have aAx := zA (zW hg HB); have aAy := zA (zW hg HB); have o5 := zA (lZ hg fI); have xW := zA (l5 hg fI); have qG := zA (lZ hg gF); have DT := zA (l5 hg gF); replace fF := zA (Kd.bf (zR fF) hb); replace fI := zA (dn fI hb); replace gF := zA (dn gF hb); replace HB := zA (af (zB HB) hb); clear hb aG hg)); go_loopg [12, 13] k1 (fun kq v12 v13 w' => ∃ (Co : Bool) (sJ : Int) (fU : List Int) (fC : List (aD)) (fV : List (List (aD))) (pg : Value) (qR : Value) (sS : Value), v12 = .bool Co ∧ v13 = .int .i64 sJ ∧ ag (az.l1 kq l1 a2 iR Co sJ au ah fU fC fV = some (r1, r2, r3, r4)) ∧ ag (kq ≤ k1) ∧ ag (Kd.R (Kd.int .i64) 3 w' w.heap.size (fun k_ => some k_ ≠ (pg : Value).ownBlock) (.slice C9 iR.length Da) iR) ∧ ag (Kd.R (Kd.int .i64) 3 w' w.heap.size (fun k_ => some k_ ≠ ((.slice C9 iR.length Da) : Value).ownBlock) pg fU) ∧ ag (Kd.R gm 42 w' w.heap.size (fun _ => True) qR fC) ∧ ag (Kd.S (Kd.slice 42 gm) 22 w' w.heap.size (fun k_ => some k_ ≠ (qR : Value).ownBlock) sS fV) ∧ ag (w'.heap[Gu]? = some (.cells #[.int .i64 au, (.slice aZ ah.length aW)] 24 (0, 0))) ∧ ag (w'.heap[sI]? = some (.cells #[(.slice none 0 0), (.slice none 0 0), (.slice none 0 0)] 28 (0, 0))) ∧ ag (w'.heap[oN]? = some (.cells #[pg, qR, sS] 28 (0, 0))) ∧ ag (Below w.heap.size w w'))
         case atStart => exact ⟨(false), (0), (([] : List Int)), (([] : List (aD))), (([] : List (List (aD)))), (.slice none 0 0), (.slice none 0 0), (.slice none 0 0), zv, zv, H', ⟨Nat.le_refl _⟩, ⟨by refine jF ?_; exact Kd.aQ fF.out (fun _ hk => (by simp [Value.ownBlock]))⟩, ⟨Ab⟩, ⟨Ab⟩, ⟨Ab⟩, ⟨zK fI⟩, ⟨zK gF⟩, ⟨zK iQ⟩, ⟨zB HB⟩⟩
         case round =>
          clear H'
          obtain ⟨Co, sJ, fU, fC, fV, pg, qR, sS, rfl, rfl, HA, mo, fF, dR, dD, dV, fI, gF, iQ, HB⟩ := hrel; cases gk with
          | zero => exact absurd HA.out (by simp [az.l1])
          | succ k2 =>
           have H := HA.out; clear HA; simp only [az.l1] at H; obtain ⟨Ir, ac9⟩ : ∃ j_ : Int, (IntKind.u64.wrap ((iR.length : Int))) = j_ := ⟨_, rfl⟩; replace H : (if 0 ≤ (Ir) then (if sJ < (shl .i64 1 (Ir)) then (az.l2 k2 l1 a2 iR Co sJ ([] : List Int) 0 au ah fU fC fV) else (some (fU, fC, fV, 0))) else (none)) = some (r1, r2, r3, r4) := by first | (rw [ac9] at H; exact H) | (simp only [ac9] at H ⊢; exact H)
           by_cases Cf : 0 ≤ (Ir)
           · rw [if_pos Cf] at H; have IY := eq_true Cf; have ahF := decide_eq_true Cf; clear Cf; obtain ⟨nC, Dn⟩ : ∃ j_ : Int, (shl .i64 1 (Ir)) = j_ := ⟨_, rfl⟩; replace H : (if sJ < (nC) then (az.l2 k2 l1 a2 iR Co sJ ([] : List Int) 0 au ah fU fC fV) else (some (fU, fC, fV, 0))) = some (r1, r2, r3, r4) := by first | (rw [Dn] at H; exact H) | (simp only [Dn] at H ⊢; exact H)
             have ada : (IntKind.i64.wrap (1 * 2 ^ min (Ir).toNat 64)) = nC := Dn; have adb : (Ir) ≤ 64 → (IntKind.i64.wrap (1 * 2 ^ (Ir).toNat)) = nC := G6 Dn; have av7 : (IntKind.i64.wrap (2 ^ min (Ir).toNat 64)) = nC := by have h_ := ada; rw [Int.one_mul] at h_; exact h_
             have av8 : (Ir) ≤ 64 → (IntKind.i64.wrap (2 ^ (Ir).toNat)) = nC := fun Uj => by have h_ := adb Uj; rw [Int.one_mul] at h_; exact h_
             have av9 : (wrap64 (1 * 2 ^ min (Ir).toNat 64)) = nC := (nE _).symm.trans ada; have awc : (Ir) ≤ 64 → (wrap64 (1 * 2 ^ (Ir).toNat)) = nC := fun h_ => (nE _).symm.trans (adb h_)
             by_cases c32 : sJ < (nC)
             · rw [if_pos c32] at H; have Q5 := decide_eq_true c32; clear c32; have H' := zA H; clear H; go_wp2; go_loopg [14, 15] k2 (fun kq v14 v15 w' => ∃ (ru : List Int) (tT : Int), v15 = .int .i64 tT ∧ ag (az.l2 kq l1 a2 iR Co sJ ru tT au ah fU fC fV = some (r1, r2, r3, r4)) ∧ ag (kq ≤ k2) ∧ ag (Kd.R (Kd.int .i64) 3 w' w.heap.size (fun k_ => some k_ ≠ (v14 : Value).ownBlock ∧ some k_ ≠ (pg : Value).ownBlock) (.slice C9 iR.length Da) iR) ∧ ag (Kd.R (Kd.int .i64) 3 w' w.heap.size (fun k_ => some k_ ≠ ((.slice C9 iR.length Da) : Value).ownBlock ∧ some k_ ≠ (pg : Value).ownBlock) v14 ru) ∧ ag (Kd.R (Kd.int .i64) 3 w' w.heap.size (fun k_ => some k_ ≠ ((.slice C9 iR.length Da) : Value).ownBlock ∧ some k_ ≠ (v14 : Value).ownBlock) pg fU) ∧ ag (Kd.R gm 42 w' w.heap.size (fun _ => True) qR fC) ∧ ag (Kd.S (Kd.slice 42 gm) 22 w' w.heap.size (fun k_ => some k_ ≠ (qR : Value).ownBlock) sS fV) ∧ ag (w'.heap[Gu]? = some (.cells #[.int .i64 au, (.slice aZ ah.length aW)] 24 (0, 0))) ∧ ag (w'.heap[sI]? = some (.cells #[(.slice none 0 0), (.slice none 0 0), (.slice none 0 0)] 28 (0, 0))) ∧ ag (w'.heap[oN]? = some (.cells #[pg, qR, sS] 28 (0, 0))) ∧ ag (Below w.heap.size w w'))
               case atStart => exact ⟨(([] : List Int)), (0), zv, H', ⟨Nat.le_refl _⟩, ⟨by refine jF ?_; exact Kd.aQ fF.out (fun _ hk => ⟨(by simp [Value.ownBlock]), hk⟩)⟩, ⟨Ab⟩, ⟨by refine jF ?_; exact Kd.aQ dR.out (fun _ hk => ⟨hk, (by simp [Value.ownBlock])⟩)⟩, ⟨zR dD⟩, ⟨zS dV⟩, ⟨zK fI⟩, ⟨zK gF⟩, ⟨zK iQ⟩, ⟨zB HB⟩⟩
               case round =>
                clear H'
                obtain ⟨ru, tT, rfl, HA, wO, fF, eU, dR, dD, dV, fI, gF, iQ, HB⟩ := hrel; cases gk with
                | zero => exact absurd HA.out (by simp [az.l2])
                | succ k3 =>
                 have H := HA.out; clear HA; simp only [az.l2] at H; by_cases Cj : tT < au
                 · rw [if_pos Cj] at H; have I9 := decide_eq_true Cj; clear Cj; replace H := zE H; obtain ⟨afF, A34, H⟩ := H; (try dsimp only at H); have H' := zA H; clear H; have abv := oq.out; have abw := ou.out; have Wd := o5.out; have We := xW.out; obtain ⟨_, _, _, _⟩ := iG fI; go_wp2_with (first | ((with_reducible refine ay (f := 34) rfl ?_); refine zG (some 62) rfl Tryd.func34 #[.slice A1 l1.length c1, .int .i64 tT] ?_; (with_reducible refine (bM.calls k3 _ _ l1 tT afF _ ?aI ?aN A34.out).mono ?_); (case aI => exact jB HR1 HB); (case aN => exact rX.out); rintro e w' ⟨rfl, ⟨nd, rfl⟩⟩; refine ⟨_, rfl, ?_⟩)); go_loopg [16, 17] k3 (fun kq v16 v17 w' => ∃ (Ta : Bool) (rV : Int), v16 = .bool Ta ∧ v17 = .int .i64 rV ∧ ag (az.l3 kq l1 a2 iR Co sJ ru tT Ta rV au ah fU fC fV = some (r1, r2, r3, r4)) ∧ ag (kq ≤ k3) ∧ ag (Kd.R (Kd.int .i64) 3 w' w.heap.size (fun k_ => some k_ ≠ (u14 : Value).ownBlock ∧ some k_ ≠ (pg : Value).ownBlock) (.slice C9 iR.length Da) iR) ∧ ag (Kd.R (Kd.int .i64) 3 w' w.heap.size (fun k_ => some k_ ≠ ((.slice C9 iR.length Da) : Value).ownBlock ∧ some k_ ≠ (pg : Value).ownBlock) u14 ru) ∧ ag (Kd.R (Kd.int .i64) 3 w' w.heap.size (fun k_ => some k_ ≠ ((.slice C9 iR.length Da) : Value).ownBlock ∧ some k_ ≠ (u14 : Value).ownBlock) pg fU) ∧ ag (Kd.R gm 42 w' w.heap.size (fun _ => True) qR fC) ∧ ag (Kd.S (Kd.slice 42 gm) 22 w' w.heap.size (fun k_ => some k_ ≠ (qR : Value).ownBlock) sS fV) ∧ ag (w'.heap[Gu]? = some (.cells #[.int .i64 au, (.slice aZ ah.length aW)] 24 (0, 0))) ∧ ag (w'.heap[sI]? = some (.cells #[(.slice none 0 0), (.slice none 0 0), (.slice none 0 0)] 28 (0, 0))) ∧ ag (w'.heap[oN]? = some (.cells #[pg, qR, sS] 28 (0, 0))) ∧ ag (Below w.heap.size w w'))
                   case atStart => exact ⟨(afF), (0), zv, zv, H', ⟨Nat.le_refl _⟩, ⟨zR fF⟩, ⟨zR eU⟩, ⟨zR dR⟩, ⟨zR dD⟩, ⟨zS dV⟩, ⟨zK fI⟩, ⟨zK gF⟩, ⟨zK iQ⟩, ⟨zB HB⟩⟩
                   case round =>
                    clear H'
                    obtain ⟨Ta, rV, rfl, rfl, HA, OP, fF, eU, dR, dD, dV, fI, gF, iQ, HB⟩ := hrel; cases gk with
                    | zero => exact absurd HA.out (by simp [az.l3])
                    | succ k4 =>
                     have H := HA.out; clear HA; simp only [az.l3] at H; by_cases Oy : rV < (iR.length : Int)
                     · rw [if_pos Oy] at H; have Wn := decide_eq_true Oy; clear Oy; by_cases Ty : Ta = true
                       · subst Ty; rw [if_pos rfl] at H; have H' := zA H; clear H; go_wp2; go_roundg k4
                         case measure => have := iU.out; have := mo.out; have := wO.out; have := OP.out; omega
                         case rel => exact ⟨(true), (wrap64 (rV + 1)), zv, zv, H', ⟨by have := iU.out; have := mo.out; have := wO.out; have := OP.out; omega⟩, ⟨zR fF⟩, ⟨zR eU⟩, ⟨zR dR⟩, ⟨zR dD⟩, ⟨zS dV⟩, ⟨zK fI⟩, ⟨zK gF⟩, ⟨zK iQ⟩, ⟨zB HB⟩⟩
                       · replace Ty := Bool.eq_false_iff.mpr Ty; subst Ty; rw [if_neg (show ¬ (false = true) by decide)] at H; by_cases c40 : 0 ≤ rV
                         · rw [if_pos c40] at H; have aAz := decide_eq_true c40; clear c40; by_cases c41 : (rd iR rV) = tT
                           · rw [if_pos c41] at H; have arp : ((rd iR rV) == tT) = true := beq_iff_eq.mpr c41; have arq : ((rd iR rV) != tT) = false := bne_eq_false_iff_eq.mpr c41; clear c41; obtain ⟨Vo, ah4⟩ : ∃ j_ : Int, (IntKind.u64.wrap (rV)) = j_ := ⟨_, rfl⟩; replace H : (if 0 ≤ (Vo) then (az.l3 k4 l1 a2 iR Co sJ ru tT ((Go.bits .and .i64 (shr .i64 sJ (Vo)) 1) == 1) (wrap64 (rV + 1)) au ah fU fC fV) else (none)) = some (r1, r2, r3, r4) := by first | (rw [ah4] at H; exact H) | (simp only [ah4] at H ⊢; exact H)
                             by_cases c43 : 0 ≤ (Vo)
                             · rw [if_pos c43] at H; have aqH := eq_true c43; have aAA := decide_eq_true c43; clear c43; obtain ⟨afG, Tc⟩ : ∃ j_ : Int, (shr .i64 sJ (Vo)) = j_ := ⟨_, rfl⟩; replace H : (az.l3 k4 l1 a2 iR Co sJ ru tT ((Go.bits .and .i64 (afG) 1) == 1) (wrap64 (rV + 1)) au ah fU fC fV) = some (r1, r2, r3, r4) := by first | (rw [Tc] at H; exact H) | (simp only [Tc] at H ⊢; exact H)
                               have awd : (sJ / 2 ^ min (Vo).toNat 64) = afG := Tc; have awe : (Vo) ≤ 64 → (sJ / 2 ^ (Vo).toNat) = afG := G7 Tc; have H' := zA H; clear H; have Vp : 0 ≤ (rV : Int) := zo; have Vq : rV < (iR.length : Int) := zo; obtain ⟨ars, alV, afH⟩ := Kd.eP (Kd.aU fF.out).2.2 rV Vp Vq; cases alV; replace Vp := eq_true Vp; replace Vq := eq_true Vq; go_wp2; go_roundg k4
                               case measure => have := iU.out; have := mo.out; have := wO.out; have := OP.out; omega
                               case rel => exact ⟨(((Go.bits .and .i64 (afG) 1) == 1)), (wrap64 (rV + 1)), (by first | rfl | (simp; done) | (simp only [← Tc] <;> (first | rfl | simp)) | (simp [*]; done)), zv, H', ⟨by have := iU.out; have := mo.out; have := wO.out; have := OP.out; omega⟩, ⟨zR fF⟩, ⟨zR eU⟩, ⟨zR dR⟩, ⟨zR dD⟩, ⟨zS dV⟩, ⟨zK fI⟩, ⟨zK gF⟩, ⟨zK iQ⟩, ⟨zB HB⟩⟩
                             · rw [if_neg c43] at H; exact absurd H (by simp)
                           · rw [if_neg c41] at H; have arp : ((rd iR rV) == tT) = false := beq_eq_false_iff_ne.mpr c41; have arq : ((rd iR rV) != tT) = true := bne_iff_ne.mpr c41; have H' := zA H; clear H; have Vp : 0 ≤ (rV : Int) := zo; have Vq : rV < (iR.length : Int) := zo; obtain ⟨ars, alV, afH⟩ := Kd.eP (Kd.aU fF.out).2.2 rV Vp Vq; cases alV; replace Vp := eq_true Vp; replace Vq := eq_true Vq; go_wp2; go_roundg k4
                             case measure => have := iU.out; have := mo.out; have := wO.out; have := OP.out; omega
                             case rel => exact ⟨(false), (wrap64 (rV + 1)), zv, zv, H', ⟨by have := iU.out; have := mo.out; have := wO.out; have := OP.out; omega⟩, ⟨zR fF⟩, ⟨zR eU⟩, ⟨zR dR⟩, ⟨zR dD⟩, ⟨zS dV⟩, ⟨zK fI⟩, ⟨zK gF⟩, ⟨zK iQ⟩, ⟨zB HB⟩⟩
                         · rw [if_neg c40] at H; exact absurd H (by simp)
                     · rw [if_neg Oy] at H; have Wn := decide_eq_false Oy; clear Oy; by_cases Qa : Ta = true
                       · subst Qa; rw [if_pos rfl] at H; by_cases c46 : ru.length < 17592186044416
                         · rw [if_pos c46] at H; have art := zA c46; clear c46; obtain ⟨aru, Td⟩ : ∃ y_ : List Int, y_ = (ru ++ [tT]) := ⟨_, rfl⟩; replace H : (az.l2 k4 l1 a2 iR Co sJ aru (wrap64 (tT + 1)) au ah fU fC fV) = some (r1, r2, r3, r4) := by first | (rw [Td]; with_reducible exact H) | (have iW := (Option.bind_some _ _).symm.trans H; rw [Td]; with_reducible exact iW) | (have iW := (Option.bind_some _ _).symm.trans H; with_reducible exact iW) | with_reducible exact H | (rw [Td]; exact H) | exact H
                           have arv := zA Td; clear Td; have H' := zA H; clear H; go_wp2_with (first | ((with_reducible refine fZ (b := .append) (xs := #[.tmp 87, .tmp 89]) rfl ?_); at_builtin; refine Kd.oz (Kd.int .i64) (w0 := w) w.heap.size rfl (.tmp 87) (.tmp 89) 25 3 (.int .i64 0) 8 rfl Tryd.underlying25 info3 rfl (by decide) (by omega) u14 ru tT [.int .i64 tT] (fun k_ => some k_ ≠ (.slice C9 iR.length Da : Value).ownBlock ∧ some k_ ≠ (pg : Value).ownBlock) (fun _ => False) rfl rfl ?aP (fun _ hk => hk.elim) ?aF ?aO ?aB ?aS ?aL ?_; (case aP => exact rfl); (case aB => exact (zB HB)); (case aF => exact (fun k_ hk => ⟨Kd.fresh' (Kd.kP (zR fF)) k_ hk, Kd.fresh' (Kd.kP (zR dR)) k_ hk⟩)); (case aO => exact (zR eU)); (case aS => exact (aJ (zB HB))); (case aL => have := art.out; omega); intro aDq w47 ho hb hg hat; rw [← arv.out] at ho; have arw := zA (ho); replace fF := zA (Kd.wQ (ok := (fun k_ => some k_ ≠ (pg : Value).ownBlock)) (by refine jF ?_; exact Kd.aQ fF.out (fun _ hk => ⟨hk.2, hk.1⟩)) hg hat); replace dR := zA (Kd.wQ (ok := (fun k_ => some k_ ≠ (.slice C9 iR.length Da : Value).ownBlock)) (zR dR) hg hat); replace dD := zA (Kd.oH (zR dD) (Kd.nM (zR eU)) (by decide) hg); replace dV := zA (Kd.adE (zS dV) (Kd.nM (zR eU)) (by decide) hg); replace fI := zA (bZ (g := Gu) (o := .cells #[.int .i64 au, .slice aZ ah.length aW] 24 (0, 0)) (zK fI) hg (Kd.oK eU.out fI.out (by decide))); replace gF := zA (bZ (g := sI) (o := .cells #[.slice none 0 0, .slice none 0 0, .slice none 0 0] 28 (0, 0)) (zK gF) hg (Kd.oK eU.out gF.out (by decide))); replace iQ := zA (bZ (g := oN) (o := .cells #[pg, qR, sS] 28 (0, 0)) (zK iQ) hg (Kd.oK eU.out iQ.out (by decide))); replace HB := zA (hb); clear eU; clear ho hb hg hat)); go_roundg k4
                           case measure => have := iU.out; have := mo.out; have := wO.out; have := OP.out; omega
                           case rel => exact ⟨(aru), (wrap64 (tT + 1)), zv, H', ⟨by have := iU.out; have := mo.out; have := wO.out; have := OP.out; omega⟩, ⟨by refine jF ?_; exact Kd.aQ fF.out (fun _ hk => ⟨hk.2, hk.1⟩)⟩, ⟨zR arw⟩, ⟨zR dR⟩, ⟨zR dD⟩, ⟨zS dV⟩, ⟨zK fI⟩, ⟨zK gF⟩, ⟨zK iQ⟩, ⟨zB HB⟩⟩
                         · rw [if_neg c46] at H; exact absurd H (by simp)
                       · replace Qa := Bool.eq_false_iff.mpr Qa; subst Qa; rw [if_neg (show ¬ (false = true) by decide)] at H; have H' := zA H; clear H; go_wp2; go_roundg k4
                         case measure => have := iU.out; have := mo.out; have := wO.out; have := OP.out; omega
                         case rel => exact ⟨(ru), (wrap64 (tT + 1)), zv, H', ⟨by have := iU.out; have := mo.out; have := wO.out; have := OP.out; omega⟩, ⟨zR fF⟩, ⟨zR eU⟩, ⟨zR dR⟩, ⟨zR dD⟩, ⟨zS dV⟩, ⟨zK fI⟩, ⟨zK gF⟩, ⟨zK iQ⟩, ⟨zB HB⟩⟩
                 · rw [if_neg Cj] at H; have I9 := decide_eq_false Cj; clear Cj; replace H := Option.bind_eq_some_iff.mp H; obtain ⟨⟨kK, kL, lN, PI⟩, arx, H⟩ := H; (try dsimp only at H); have A48 := zA arx; clear arx; by_cases c49 : PI = 0
                   · rw [if_pos c49] at H; have ary : (PI == 0) = true := beq_iff_eq.mpr c49; have arz : (PI != 0) = false := bne_eq_false_iff_eq.mpr c49; clear c49; by_cases WI : Co = true
                     · subst WI; rw [if_pos rfl] at H; replace H := zE H; obtain ⟨alS, A51, H⟩ := H; (try dsimp only at H); by_cases c52 : alS = true
                       · subst c52; rw [if_pos rfl] at H; have H' := zA H; clear H; have ahO := oq.out; have ahP := ou.out; have af8 := o5.out; have af9 := xW.out; obtain ⟨_, _, _, _⟩ := iG fI; obtain ⟨YW, YX, aja⟩ := Kd.bD eU.out; subst aja; go_wp2_with (first | ((with_reducible refine ay (f := 14) rfl ?_); refine zG (some 95) rfl Tryd.func14 #[.agg #[.int .i64 au, .slice aZ ah.length aW], .slice YW ru.length YX, .int .i64 a2] ?_; (with_reducible refine (ak.calls k3 au _ _ ah _ _ ru a2 kK kL lN PI _ ?aI ?aN ?bS ?bT A48.out).mono ?_); (case aI => exact jB cz HB); (case aN => exact dX.out); (case bS => repeat (first | exact (Kd.aU eU.out).2.2 | (with_reducible refine Kd.dY ?_ _) | (with_reducible refine Kd.dZ ?_ _) | (with_reducible refine Kd.fB ?_))); (case bT => exact (Kd.aU eU.out).2.1); rintro e w57 ⟨alW, alX, alY, rfl, ho0, ho1, ho2, hb⟩; refine ⟨_, rfl, ?_⟩; have qx := zA (Kd.dw (Kd.gz (Kd.gz (Kd.gz ho0 (Kd.kP (zR fF))) (Kd.kP (zR eU))) (Kd.kP (zR dR))) (aJ (zB HB))); have qy := zA (Kd.dw (Kd.gz ho1 (Kd.kP (zR dD))) (aJ (zB HB))); have qz := zA (Kd.pI (Kd.Bj (Kd.Bj ho2 (Kd.kP (zR dD))) (Kd.adD (zS dV))) (aJ (zB HB))); replace fF := zA (Kd.dQ (zR fF) (Kd.fe ho0) hb); replace eU := zA (Kd.dQ (zR eU) (Kd.fe ho0) hb); replace dR := zA (Kd.dQ (zR dR) (Kd.fe ho0) hb); replace dD := zA (Kd.dQ (zR dD) (Kd.fe ho1) hb); replace dV := zA (Kd.dF (Kd.CK (Kd.CK (Kd.VP (zS dV) hb) (Kd.fe ho1)) (Kd.N9 ho2)) (fun _ h_ => h_.1)); replace fI := zA (dn fI hb); replace gF := zA (dn gF hb); replace iQ := zA (dn iQ hb); replace HB := zA (af (zB HB) hb)) | ((with_reducible refine aH (N := 18) rfl ?_); refine zX (N := 18) (cs := #[.slice none 0 0, .slice none 0 0, .slice none 0 0]) (t := 28) ?_; intro dK hg w58 aG hb; have jX := zA (aG); have ade := zA (zW hg HB); have adf := zA (zW hg HB); have kH := zA (lZ hg fI); have vw := zA (l5 hg fI); have kI := zA (lZ hg gF); have vz := zA (l5 hg gF); have kJ := zA (lZ hg iQ); have vB := zA (l5 hg iQ); replace fF := zA (Kd.bf (zR fF) hb); replace eU := zA (Kd.bf (zR eU) hb); replace dR := zA (Kd.bf (zR dR) hb); replace dD := zA (Kd.bf (zR dD) hb); replace dV := zA (Kd.iY (zS dV) hb); replace qx := zA (Kd.bf (zR qx) hb); replace qy := zA (Kd.bf (zR qy) hb); replace qz := zA (Kd.iY (zS qz) hb); replace fI := zA (dn fI hb); replace gF := zA (dn gF hb); replace iQ := zA (dn iQ hb); replace HB := zA (af (zB HB) hb); clear hb aG hg; obtain ⟨tq, sG, ako⟩ := Kd.bD qx.out; subst ako; have ag6 := vw.out; have ag7 := kH.out; have ab3 := vz.out; have ab4 := kI.out; have ahe := vB.out; have ahf := kJ.out; obtain ⟨_, _, _, _, _, _⟩ := nG jX; obtain ⟨uM, uA, akJ⟩ := Kd.bD qy.out; subst akJ; obtain ⟨zT, yK, awf⟩ := Kd.kX qz.out; subst awf; have aAB := DT.out; have aAC := qG.out; obtain ⟨_, _, _, _, _, _⟩ := nG iQ; obtain ⟨OY, Ms, ace⟩ := Kd.bD dR.out; subst ace; obtain ⟨UO, RI, akK⟩ := Kd.bD dD.out; subst akK; obtain ⟨adg, Zx, awg⟩ := Kd.kX dV.out; subst awg) | (go_at_call 56; (with_reducible refine (cK.calls k3 _ _ kK _ _ kL _ _ lN _ _ fU _ _ fC _ _ fV true _ ?aI ?aN ?bS ?bT ?jh ?FR ?FT ?FU ?FV ?Vr ?Vs ?Vt A51.out).mono ?_); (case aI => refine (Kd.aU (e := 3) (base := w.heap.size) (ok := fun k_ => (((True ∧ some k_ ≠ (.slice C9 iR.length Da : Value).ownBlock) ∧ some k_ ≠ (.slice YW ru.length YX : Value).ownBlock) ∧ some k_ ≠ (.slice OY fU.length Ms : Value).ownBlock)) (n := kK.length) (c := sG) ?_).2.2; exact (by refine jF ?_; exact (Kd.aQ (Kd.aT (p := ⟨dK, 2, none⟩) (Kd.aT (p := ⟨dK, 1, none⟩) (Kd.aT (p := ⟨dK, 0, none⟩) (Kd.bJ qx.out jX.out (by decide)) (fun _ hk => hk.2) (.slice tq kK.length sG)) (fun _ hk => hk.2) (.slice uM kL.length uA)) (fun _ hk => hk.2) (.slice zT lN.length yK)) (fun _ h_ => h_.1)))); (case aN => exact (Kd.aU qx.out).2.1); (case bS => refine (Kd.aU (e := 42) (base := w.heap.size) (ok := fun k_ => (True ∧ some k_ ≠ (.slice UO fC.length RI : Value).ownBlock)) (n := kL.length) (c := uA) ?_).2.2; exact (by refine jF ?_; exact (Kd.aQ (Kd.aT (p := ⟨dK, 2, none⟩) (Kd.aT (p := ⟨dK, 1, none⟩) (Kd.aT (p := ⟨dK, 0, none⟩) (Kd.bJ qy.out jX.out (by decide)) (fun _ hk => hk.2) (.slice tq kK.length sG)) (fun _ hk => hk.2) (.slice uM kL.length uA)) (fun _ hk => hk.2) (.slice zT lN.length yK)) (fun _ h_ => h_.1)))); (case bT => exact (Kd.aU qy.out).2.1); (case jh => refine (Kd.jO (e := 22) (base := w.heap.size) (ok := fun k_ => ((some k_ ≠ (.slice uM kL.length uA : Value).ownBlock ∧ some k_ ≠ (.slice UO fC.length RI : Value).ownBlock) ∧ some k_ ≠ (.slice adg fV.length Zx : Value).ownBlock)) (n := lN.length) (c := yK) ?_).2.2; exact (by refine sM ?_; exact (Kd.dF (Kd.eB (p := ⟨dK, 2, none⟩) (Kd.eB (p := ⟨dK, 1, none⟩) (Kd.eB (p := ⟨dK, 0, none⟩) (Kd.jY qz.out jX.out (by decide)) (fun _ hk => hk.2) (.slice tq kK.length sG)) (fun _ hk => hk.2) (.slice uM kL.length uA)) (fun _ hk => hk.2) (.slice zT lN.length yK)) (fun _ h_ => h_.1)))); (case FR => exact (Kd.jO qz.out).2.1); (case FT => refine (Kd.aU (e := 3) (base := w.heap.size) (ok := fun k_ => ((some k_ ≠ (.slice C9 iR.length Da : Value).ownBlock ∧ some k_ ≠ (.slice YW ru.length YX : Value).ownBlock) ∧ some k_ ≠ (.slice tq kK.length sG : Value).ownBlock)) (n := fU.length) (c := Ms) ?_).2.2; exact (by refine jF ?_; exact (Kd.aQ (Kd.aT (p := ⟨dK, 2, none⟩) (Kd.aT (p := ⟨dK, 1, none⟩) (Kd.aT (p := ⟨dK, 0, none⟩) (Kd.bJ dR.out jX.out (by decide)) (fun _ hk => hk.2) (.slice tq kK.length sG)) (fun _ hk => hk.2) (.slice uM kL.length uA)) (fun _ hk => hk.2) (.slice zT lN.length yK)) (fun _ h_ => h_.1)))); (case FU => exact (Kd.aU dR.out).2.1); (case FV => refine (Kd.aU (e := 42) (base := w.heap.size) (ok := fun k_ => (True ∧ some k_ ≠ (.slice uM kL.length uA : Value).ownBlock)) (n := fC.length) (c := RI) ?_).2.2; exact (by refine jF ?_; exact (Kd.aQ (Kd.aT (p := ⟨dK, 2, none⟩) (Kd.aT (p := ⟨dK, 1, none⟩) (Kd.aT (p := ⟨dK, 0, none⟩) (Kd.bJ dD.out jX.out (by decide)) (fun _ hk => hk.2) (.slice tq kK.length sG)) (fun _ hk => hk.2) (.slice uM kL.length uA)) (fun _ hk => hk.2) (.slice zT lN.length yK)) (fun _ h_ => h_.1)))); (case Vr => exact (Kd.aU dD.out).2.1); (case Vs => refine (Kd.jO (e := 22) (base := w.heap.size) (ok := fun k_ => ((some k_ ≠ (.slice UO fC.length RI : Value).ownBlock ∧ some k_ ≠ (.slice uM kL.length uA : Value).ownBlock) ∧ some k_ ≠ (.slice zT lN.length yK : Value).ownBlock)) (n := fV.length) (c := Zx) ?_).2.2; exact (by refine sM ?_; exact (Kd.dF (Kd.eB (p := ⟨dK, 2, none⟩) (Kd.eB (p := ⟨dK, 1, none⟩) (Kd.eB (p := ⟨dK, 0, none⟩) (Kd.jY dV.out jX.out (by decide)) (fun _ hk => hk.2) (.slice tq kK.length sG)) (fun _ hk => hk.2) (.slice uM kL.length uA)) (fun _ hk => hk.2) (.slice zT lN.length yK)) (fun _ h_ => h_.1)))); (case Vt => exact (Kd.jO dV.out).2.1); rintro e w71 ⟨rfl, hb⟩; replace fF := zA (Kd.bf (by refine jF ?_; exact (Kd.aQ (Kd.aT (p := ⟨dK, 2, none⟩) (Kd.aT (p := ⟨dK, 1, none⟩) (Kd.aT (p := ⟨dK, 0, none⟩) (Kd.bJ fF.out jX.out (by decide)) (fun _ hk => hk.2) (.slice tq kK.length sG)) (fun _ hk => hk.2) (.slice uM kL.length uA)) (fun _ hk => hk.2) (.slice zT lN.length yK)) (fun _ h_ => h_.1))) hb); replace eU := zA (Kd.bf (by refine jF ?_; exact (Kd.aQ (Kd.aT (p := ⟨dK, 2, none⟩) (Kd.aT (p := ⟨dK, 1, none⟩) (Kd.aT (p := ⟨dK, 0, none⟩) (Kd.bJ eU.out jX.out (by decide)) (fun _ hk => hk.2) (.slice tq kK.length sG)) (fun _ hk => hk.2) (.slice uM kL.length uA)) (fun _ hk => hk.2) (.slice zT lN.length yK)) (fun _ h_ => h_.1))) hb); replace dR := zA (Kd.bf (by refine jF ?_; exact (Kd.aQ (Kd.aT (p := ⟨dK, 2, none⟩) (Kd.aT (p := ⟨dK, 1, none⟩) (Kd.aT (p := ⟨dK, 0, none⟩) (Kd.bJ dR.out jX.out (by decide)) (fun _ hk => hk.2) (.slice tq kK.length sG)) (fun _ hk => hk.2) (.slice uM kL.length uA)) (fun _ hk => hk.2) (.slice zT lN.length yK)) (fun _ h_ => h_.1))) hb); replace dD := zA (Kd.bf (by refine jF ?_; exact (Kd.aQ (Kd.aT (p := ⟨dK, 2, none⟩) (Kd.aT (p := ⟨dK, 1, none⟩) (Kd.aT (p := ⟨dK, 0, none⟩) (Kd.bJ dD.out jX.out (by decide)) (fun _ hk => hk.2) (.slice tq kK.length sG)) (fun _ hk => hk.2) (.slice uM kL.length uA)) (fun _ hk => hk.2) (.slice zT lN.length yK)) (fun _ h_ => h_.1))) hb); replace dV := zA (Kd.iY (by refine sM ?_; exact (Kd.dF (Kd.eB (p := ⟨dK, 2, none⟩) (Kd.eB (p := ⟨dK, 1, none⟩) (Kd.eB (p := ⟨dK, 0, none⟩) (Kd.jY dV.out jX.out (by decide)) (fun _ hk => hk.2) (.slice tq kK.length sG)) (fun _ hk => hk.2) (.slice uM kL.length uA)) (fun _ hk => hk.2) (.slice zT lN.length yK)) (fun _ h_ => h_.1))) hb); replace qx := zA (Kd.bf (by refine jF ?_; exact (Kd.aQ (Kd.aT (p := ⟨dK, 2, none⟩) (Kd.aT (p := ⟨dK, 1, none⟩) (Kd.aT (p := ⟨dK, 0, none⟩) (Kd.bJ qx.out jX.out (by decide)) (fun _ hk => hk.2) (.slice tq kK.length sG)) (fun _ hk => hk.2) (.slice uM kL.length uA)) (fun _ hk => hk.2) (.slice zT lN.length yK)) (fun _ h_ => h_.1))) hb); replace qy := zA (Kd.bf (by refine jF ?_; exact (Kd.aQ (Kd.aT (p := ⟨dK, 2, none⟩) (Kd.aT (p := ⟨dK, 1, none⟩) (Kd.aT (p := ⟨dK, 0, none⟩) (Kd.bJ qy.out jX.out (by decide)) (fun _ hk => hk.2) (.slice tq kK.length sG)) (fun _ hk => hk.2) (.slice uM kL.length uA)) (fun _ hk => hk.2) (.slice zT lN.length yK)) (fun _ h_ => h_.1))) hb); replace qz := zA (Kd.iY (by refine sM ?_; exact (Kd.dF (Kd.eB (p := ⟨dK, 2, none⟩) (Kd.eB (p := ⟨dK, 1, none⟩) (Kd.eB (p := ⟨dK, 0, none⟩) (Kd.jY qz.out jX.out (by decide)) (fun _ hk => hk.2) (.slice tq kK.length sG)) (fun _ hk => hk.2) (.slice uM kL.length uA)) (fun _ hk => hk.2) (.slice zT lN.length yK)) (fun _ h_ => h_.1))) hb); replace fI := zA (fo (g := Gu) (o := .cells #[.int .i64 au, .slice aZ ah.length aW] 24 (0, 0)) (by refine iA kH.out ?_; refine iA kH.out ?_; refine iA kH.out ?_; refine zk ?_; exact fI.out) hb); replace gF := zA (fo (g := sI) (o := .cells #[.slice none 0 0, .slice none 0 0, .slice none 0 0] 28 (0, 0)) (by refine iA kI.out ?_; refine iA kI.out ?_; refine iA kI.out ?_; refine zk ?_; exact gF.out) hb); replace iQ := zA (fo (g := oN) (o := .cells #[.slice OY fU.length Ms, .slice UO fC.length RI, .slice adg fV.length Zx] 28 (0, 0)) (by refine iA kJ.out ?_; refine iA kJ.out ?_; refine iA kJ.out ?_; refine zk ?_; exact iQ.out) hb); replace jX := zA (fo (g := dK) (o := .cells #[.slice tq kK.length sG, .slice uM kL.length uA, .slice zT lN.length yK] 28 (0, 0)) (by refine zk ?_; refine aV (cs := #[.slice tq kK.length sG, .slice uM kL.length uA, .slice none 0 0]) ?_ 2 _ rfl; refine zk ?_; refine aV (cs := #[.slice tq kK.length sG, .slice none 0 0, .slice none 0 0]) ?_ 1 _ rfl; refine zk ?_; refine aV (cs := #[.slice none 0 0, .slice none 0 0, .slice none 0 0]) ?_ 0 _ rfl; refine zk ?_; exact jX.out) hb); replace HB := zA (af (zB HB) hb); obtain ⟨_, _, _, _, _, _⟩ := nG jX; obtain ⟨_, _, _, _, _, _⟩ := nG iQ)); go_roundg k3
                         case measure => have := iU.out; have := mo.out; have := wO.out; omega
                         case rel => exact ⟨(true), (wrap64 (sJ + 1)), (kK), (kL), (lN), (.slice tq kK.length sG), (.slice uM kL.length uA), (.slice zT lN.length yK), zv, zv, H', ⟨by have := iU.out; have := mo.out; have := wO.out; omega⟩, ⟨by refine jF ?_; exact Kd.aQ (Kd.aT (p := ⟨oN, 2, none⟩) (Kd.aT (p := ⟨oN, 1, none⟩) (Kd.aT (p := ⟨oN, 0, none⟩) (Kd.bJ fF.out iQ.out (by decide)) (fun _ hk => hk.2) (.slice tq kK.length sG)) (fun _ hk => hk.2) (.slice uM kL.length uA)) (fun _ hk => hk.2) (.slice zT lN.length yK)) (fun _ hk => hk.1.2)⟩, ⟨by refine jF ?_; exact Kd.aQ (Kd.aT (p := ⟨oN, 2, none⟩) (Kd.aT (p := ⟨oN, 1, none⟩) (Kd.aT (p := ⟨oN, 0, none⟩) (Kd.bJ qx.out iQ.out (by decide)) (fun _ hk => hk.2) (.slice tq kK.length sG)) (fun _ hk => hk.2) (.slice uM kL.length uA)) (fun _ hk => hk.2) (.slice zT lN.length yK)) (fun _ hk => hk.1.1.1.2)⟩, ⟨by refine jF ?_; exact Kd.aQ (Kd.aT (p := ⟨oN, 2, none⟩) (Kd.aT (p := ⟨oN, 1, none⟩) (Kd.aT (p := ⟨oN, 0, none⟩) (Kd.bJ qy.out iQ.out (by decide)) (fun _ hk => hk.2) (.slice tq kK.length sG)) (fun _ hk => hk.2) (.slice uM kL.length uA)) (fun _ hk => hk.2) (.slice zT lN.length yK)) (fun _ hk => trivial)⟩, ⟨by refine sM ?_; exact Kd.dF (Kd.eB (p := ⟨oN, 2, none⟩) (Kd.eB (p := ⟨oN, 1, none⟩) (Kd.eB (p := ⟨oN, 0, none⟩) (Kd.jY qz.out iQ.out (by decide)) (fun _ hk => hk.2) (.slice tq kK.length sG)) (fun _ hk => hk.2) (.slice uM kL.length uA)) (fun _ hk => hk.2) (.slice zT lN.length yK)) (fun _ hk => hk.1.1.1)⟩, ⟨by refine iA o5.out ?_; refine iA o5.out ?_; refine iA o5.out ?_; refine zk ?_; exact fI.out⟩, ⟨by refine iA qG.out ?_; refine iA qG.out ?_; refine iA qG.out ?_; refine zk ?_; exact gF.out⟩, ⟨by refine zk ?_; refine aV (cs := #[.slice tq kK.length sG, .slice uM kL.length uA, .slice adg fV.length Zx]) ?_ 2 _ rfl; refine zk ?_; refine aV (cs := #[.slice tq kK.length sG, .slice UO fC.length RI, .slice adg fV.length Zx]) ?_ 1 _ rfl; refine zk ?_; refine aV (cs := #[.slice OY fU.length Ms, .slice UO fC.length RI, .slice adg fV.length Zx]) ?_ 0 _ rfl; refine zk ?_; exact iQ.out⟩, ⟨zB HB⟩⟩
                       · replace c52 := Bool.eq_false_iff.mpr c52; subst c52; rw [if_neg (show ¬ (false = true) by decide)] at H; have H' := zA H; clear H; have apM := oq.out; have apN := ou.out; have apf := o5.out; have apg := xW.out; obtain ⟨_, _, _, _⟩ := iG fI; obtain ⟨alZ, al0, awh⟩ := Kd.bD eU.out; subst awh; go_wp2_with (first | ((with_reducible refine ay (f := 14) rfl ?_); refine zG (some 95) rfl Tryd.func14 #[.agg #[.int .i64 au, .slice aZ ah.length aW], .slice alZ ru.length al0, .int .i64 a2] ?_; (with_reducible refine (ak.calls k3 au _ _ ah _ _ ru a2 kK kL lN PI _ ?aI ?aN ?bS ?bT A48.out).mono ?_); (case aI => exact jB cz HB); (case aN => exact dX.out); (case bS => repeat (first | exact (Kd.aU eU.out).2.2 | (with_reducible refine Kd.dY ?_ _) | (with_reducible refine Kd.dZ ?_ _) | (with_reducible refine Kd.fB ?_))); (case bT => exact (Kd.aU eU.out).2.1); rintro e w78 ⟨alW, alX, alY, rfl, ho0, ho1, ho2, hb⟩; refine ⟨_, rfl, ?_⟩; have qx := zA (Kd.dw (Kd.gz (Kd.gz (Kd.gz ho0 (Kd.kP (zR fF))) (Kd.kP (zR eU))) (Kd.kP (zR dR))) (aJ (zB HB))); have qy := zA (Kd.dw (Kd.gz ho1 (Kd.kP (zR dD))) (aJ (zB HB))); have qz := zA (Kd.pI (Kd.Bj (Kd.Bj ho2 (Kd.kP (zR dD))) (Kd.adD (zS dV))) (aJ (zB HB))); replace fF := zA (Kd.dQ (zR fF) (Kd.fe ho0) hb); replace eU := zA (Kd.dQ (zR eU) (Kd.fe ho0) hb); replace dR := zA (Kd.dQ (zR dR) (Kd.fe ho0) hb); replace dD := zA (Kd.dQ (zR dD) (Kd.fe ho1) hb); replace dV := zA (Kd.dF (Kd.CK (Kd.CK (Kd.VP (zS dV) hb) (Kd.fe ho1)) (Kd.N9 ho2)) (fun _ h_ => h_.1)); replace fI := zA (dn fI hb); replace gF := zA (dn gF hb); replace iQ := zA (dn iQ hb); replace HB := zA (af (zB HB) hb)) | ((with_reducible refine aH (N := 18) rfl ?_); refine zX (N := 18) (cs := #[.slice none 0 0, .slice none 0 0, .slice none 0 0]) (t := 28) ?_; intro dK hg w79 aG hb; have jX := zA (aG); have ade := zA (zW hg HB); have adf := zA (zW hg HB); have kH := zA (lZ hg fI); have vw := zA (l5 hg fI); have kI := zA (lZ hg gF); have vz := zA (l5 hg gF); have kJ := zA (lZ hg iQ); have vB := zA (l5 hg iQ); replace fF := zA (Kd.bf (zR fF) hb); replace eU := zA (Kd.bf (zR eU) hb); replace dR := zA (Kd.bf (zR dR) hb); replace dD := zA (Kd.bf (zR dD) hb); replace dV := zA (Kd.iY (zS dV) hb); replace qx := zA (Kd.bf (zR qx) hb); replace qy := zA (Kd.bf (zR qy) hb); replace qz := zA (Kd.iY (zS qz) hb); replace fI := zA (dn fI hb); replace gF := zA (dn gF hb); replace iQ := zA (dn iQ hb); replace HB := zA (af (zB HB) hb); clear hb aG hg; obtain ⟨BC, AP, akL⟩ := Kd.bD qx.out; subst akL; have aAD := vw.out; have aAE := kH.out; have apB := vz.out; have apC := kI.out; have aAF := vB.out; have aAG := kJ.out; obtain ⟨_, _, _, _, _, _⟩ := nG jX; obtain ⟨BQ, Bc, awi⟩ := Kd.bD qy.out; subst awi; obtain ⟨D9, Dr, awj⟩ := Kd.kX qz.out; subst awj; have aAH := DT.out; have aAI := qG.out; obtain ⟨_, _, _, _, _, _⟩ := nG iQ; obtain ⟨al1, afI, awk⟩ := Kd.bD dR.out; subst awk; obtain ⟨Cw, BB, abO⟩ := Kd.bD dD.out; subst abO; obtain ⟨al3, afJ, awl⟩ := Kd.kX dV.out; subst awl) | (go_at_call 56; (with_reducible refine (cK.calls k3 _ _ kK _ _ kL _ _ lN _ _ fU _ _ fC _ _ fV false _ ?aI ?aN ?bS ?bT ?jh ?FR ?FT ?FU ?FV ?Vr ?Vs ?Vt A51.out).mono ?_); (case aI => refine (Kd.aU (e := 3) (base := w.heap.size) (ok := fun k_ => (((True ∧ some k_ ≠ (.slice C9 iR.length Da : Value).ownBlock) ∧ some k_ ≠ (.slice alZ ru.length al0 : Value).ownBlock) ∧ some k_ ≠ (.slice al1 fU.length afI : Value).ownBlock)) (n := kK.length) (c := AP) ?_).2.2; exact (by refine jF ?_; exact (Kd.aQ (Kd.aT (p := ⟨dK, 2, none⟩) (Kd.aT (p := ⟨dK, 1, none⟩) (Kd.aT (p := ⟨dK, 0, none⟩) (Kd.bJ qx.out jX.out (by decide)) (fun _ hk => hk.2) (.slice BC kK.length AP)) (fun _ hk => hk.2) (.slice BQ kL.length Bc)) (fun _ hk => hk.2) (.slice D9 lN.length Dr)) (fun _ h_ => h_.1)))); (case aN => exact (Kd.aU qx.out).2.1); (case bS => refine (Kd.aU (e := 42) (base := w.heap.size) (ok := fun k_ => (True ∧ some k_ ≠ (.slice Cw fC.length BB : Value).ownBlock)) (n := kL.length) (c := Bc) ?_).2.2; exact (by refine jF ?_; exact (Kd.aQ (Kd.aT (p := ⟨dK, 2, none⟩) (Kd.aT (p := ⟨dK, 1, none⟩) (Kd.aT (p := ⟨dK, 0, none⟩) (Kd.bJ qy.out jX.out (by decide)) (fun _ hk => hk.2) (.slice BC kK.length AP)) (fun _ hk => hk.2) (.slice BQ kL.length Bc)) (fun _ hk => hk.2) (.slice D9 lN.length Dr)) (fun _ h_ => h_.1)))); (case bT => exact (Kd.aU qy.out).2.1); (case jh => refine (Kd.jO (e := 22) (base := w.heap.size) (ok := fun k_ => ((some k_ ≠ (.slice BQ kL.length Bc : Value).ownBlock ∧ some k_ ≠ (.slice Cw fC.length BB : Value).ownBlock) ∧ some k_ ≠ (.slice al3 fV.length afJ : Value).ownBlock)) (n := lN.length) (c := Dr) ?_).2.2; exact (by refine sM ?_; exact (Kd.dF (Kd.eB (p := ⟨dK, 2, none⟩) (Kd.eB (p := ⟨dK, 1, none⟩) (Kd.eB (p := ⟨dK, 0, none⟩) (Kd.jY qz.out jX.out (by decide)) (fun _ hk => hk.2) (.slice BC kK.length AP)) (fun _ hk => hk.2) (.slice BQ kL.length Bc)) (fun _ hk => hk.2) (.slice D9 lN.length Dr)) (fun _ h_ => h_.1)))); (case FR => exact (Kd.jO qz.out).2.1); (case FT => refine (Kd.aU (e := 3) (base := w.heap.size) (ok := fun k_ => ((some k_ ≠ (.slice C9 iR.length Da : Value).ownBlock ∧ some k_ ≠ (.slice alZ ru.length al0 : Value).ownBlock) ∧ some k_ ≠ (.slice BC kK.length AP : Value).ownBlock)) (n := fU.length) (c := afI) ?_).2.2; exact (by refine jF ?_; exact (Kd.aQ (Kd.aT (p := ⟨dK, 2, none⟩) (Kd.aT (p := ⟨dK, 1, none⟩) (Kd.aT (p := ⟨dK, 0, none⟩) (Kd.bJ dR.out jX.out (by decide)) (fun _ hk => hk.2) (.slice BC kK.length AP)) (fun _ hk => hk.2) (.slice BQ kL.length Bc)) (fun _ hk => hk.2) (.slice D9 lN.length Dr)) (fun _ h_ => h_.1)))); (case FU => exact (Kd.aU dR.out).2.1); (case FV => refine (Kd.aU (e := 42) (base := w.heap.size) (ok := fun k_ => (True ∧ some k_ ≠ (.slice BQ kL.length Bc : Value).ownBlock)) (n := fC.length) (c := BB) ?_).2.2; exact (by refine jF ?_; exact (Kd.aQ (Kd.aT (p := ⟨dK, 2, none⟩) (Kd.aT (p := ⟨dK, 1, none⟩) (Kd.aT (p := ⟨dK, 0, none⟩) (Kd.bJ dD.out jX.out (by decide)) (fun _ hk => hk.2) (.slice BC kK.length AP)) (fun _ hk => hk.2) (.slice BQ kL.length Bc)) (fun _ hk => hk.2) (.slice D9 lN.length Dr)) (fun _ h_ => h_.1)))); (case Vr => exact (Kd.aU dD.out).2.1); (case Vs => refine (Kd.jO (e := 22) (base := w.heap.size) (ok := fun k_ => ((some k_ ≠ (.slice Cw fC.length BB : Value).ownBlock ∧ some k_ ≠ (.slice BQ kL.length Bc : Value).ownBlock) ∧ some k_ ≠ (.slice D9 lN.length Dr : Value).ownBlock)) (n := fV.length) (c := afJ) ?_).2.2; exact (by refine sM ?_; exact (Kd.dF (Kd.eB (p := ⟨dK, 2, none⟩) (Kd.eB (p := ⟨dK, 1, none⟩) (Kd.eB (p := ⟨dK, 0, none⟩) (Kd.jY dV.out jX.out (by decide)) (fun _ hk => hk.2) (.slice BC kK.length AP)) (fun _ hk => hk.2) (.slice BQ kL.length Bc)) (fun _ hk => hk.2) (.slice D9 lN.length Dr)) (fun _ h_ => h_.1)))); (case Vt => exact (Kd.jO dV.out).2.1); rintro e w92 ⟨rfl, hb⟩; replace fF := zA (Kd.bf (by refine jF ?_; exact (Kd.aQ (Kd.aT (p := ⟨dK, 2, none⟩) (Kd.aT (p := ⟨dK, 1, none⟩) (Kd.aT (p := ⟨dK, 0, none⟩) (Kd.bJ fF.out jX.out (by decide)) (fun _ hk => hk.2) (.slice BC kK.length AP)) (fun _ hk => hk.2) (.slice BQ kL.length Bc)) (fun _ hk => hk.2) (.slice D9 lN.length Dr)) (fun _ h_ => h_.1))) hb); replace eU := zA (Kd.bf (by refine jF ?_; exact (Kd.aQ (Kd.aT (p := ⟨dK, 2, none⟩) (Kd.aT (p := ⟨dK, 1, none⟩) (Kd.aT (p := ⟨dK, 0, none⟩) (Kd.bJ eU.out jX.out (by decide)) (fun _ hk => hk.2) (.slice BC kK.length AP)) (fun _ hk => hk.2) (.slice BQ kL.length Bc)) (fun _ hk => hk.2) (.slice D9 lN.length Dr)) (fun _ h_ => h_.1))) hb); replace dR := zA (Kd.bf (by refine jF ?_; exact (Kd.aQ (Kd.aT (p := ⟨dK, 2, none⟩) (Kd.aT (p := ⟨dK, 1, none⟩) (Kd.aT (p := ⟨dK, 0, none⟩) (Kd.bJ dR.out jX.out (by decide)) (fun _ hk => hk.2) (.slice BC kK.length AP)) (fun _ hk => hk.2) (.slice BQ kL.length Bc)) (fun _ hk => hk.2) (.slice D9 lN.length Dr)) (fun _ h_ => h_.1))) hb); replace dD := zA (Kd.bf (by refine jF ?_; exact (Kd.aQ (Kd.aT (p := ⟨dK, 2, none⟩) (Kd.aT (p := ⟨dK, 1, none⟩) (Kd.aT (p := ⟨dK, 0, none⟩) (Kd.bJ dD.out jX.out (by decide)) (fun _ hk => hk.2) (.slice BC kK.length AP)) (fun _ hk => hk.2) (.slice BQ kL.length Bc)) (fun _ hk => hk.2) (.slice D9 lN.length Dr)) (fun _ h_ => h_.1))) hb); replace dV := zA (Kd.iY (by refine sM ?_; exact (Kd.dF (Kd.eB (p := ⟨dK, 2, none⟩) (Kd.eB (p := ⟨dK, 1, none⟩) (Kd.eB (p := ⟨dK, 0, none⟩) (Kd.jY dV.out jX.out (by decide)) (fun _ hk => hk.2) (.slice BC kK.length AP)) (fun _ hk => hk.2) (.slice BQ kL.length Bc)) (fun _ hk => hk.2) (.slice D9 lN.length Dr)) (fun _ h_ => h_.1))) hb); replace qx := zA (Kd.bf (by refine jF ?_; exact (Kd.aQ (Kd.aT (p := ⟨dK, 2, none⟩) (Kd.aT (p := ⟨dK, 1, none⟩) (Kd.aT (p := ⟨dK, 0, none⟩) (Kd.bJ qx.out jX.out (by decide)) (fun _ hk => hk.2) (.slice BC kK.length AP)) (fun _ hk => hk.2) (.slice BQ kL.length Bc)) (fun _ hk => hk.2) (.slice D9 lN.length Dr)) (fun _ h_ => h_.1))) hb); replace qy := zA (Kd.bf (by refine jF ?_; exact (Kd.aQ (Kd.aT (p := ⟨dK, 2, none⟩) (Kd.aT (p := ⟨dK, 1, none⟩) (Kd.aT (p := ⟨dK, 0, none⟩) (Kd.bJ qy.out jX.out (by decide)) (fun _ hk => hk.2) (.slice BC kK.length AP)) (fun _ hk => hk.2) (.slice BQ kL.length Bc)) (fun _ hk => hk.2) (.slice D9 lN.length Dr)) (fun _ h_ => h_.1))) hb); replace qz := zA (Kd.iY (by refine sM ?_; exact (Kd.dF (Kd.eB (p := ⟨dK, 2, none⟩) (Kd.eB (p := ⟨dK, 1, none⟩) (Kd.eB (p := ⟨dK, 0, none⟩) (Kd.jY qz.out jX.out (by decide)) (fun _ hk => hk.2) (.slice BC kK.length AP)) (fun _ hk => hk.2) (.slice BQ kL.length Bc)) (fun _ hk => hk.2) (.slice D9 lN.length Dr)) (fun _ h_ => h_.1))) hb); replace fI := zA (fo (g := Gu) (o := .cells #[.int .i64 au, .slice aZ ah.length aW] 24 (0, 0)) (by refine iA kH.out ?_; refine iA kH.out ?_; refine iA kH.out ?_; refine zk ?_; exact fI.out) hb); replace gF := zA (fo (g := sI) (o := .cells #[.slice none 0 0, .slice none 0 0, .slice none 0 0] 28 (0, 0)) (by refine iA kI.out ?_; refine iA kI.out ?_; refine iA kI.out ?_; refine zk ?_; exact gF.out) hb); replace iQ := zA (fo (g := oN) (o := .cells #[.slice al1 fU.length afI, .slice Cw fC.length BB, .slice al3 fV.length afJ] 28 (0, 0)) (by refine iA kJ.out ?_; refine iA kJ.out ?_; refine iA kJ.out ?_; refine zk ?_; exact iQ.out) hb); replace jX := zA (fo (g := dK) (o := .cells #[.slice BC kK.length AP, .slice BQ kL.length Bc, .slice D9 lN.length Dr] 28 (0, 0)) (by refine zk ?_; refine aV (cs := #[.slice BC kK.length AP, .slice BQ kL.length Bc, .slice none 0 0]) ?_ 2 _ rfl; refine zk ?_; refine aV (cs := #[.slice BC kK.length AP, .slice none 0 0, .slice none 0 0]) ?_ 1 _ rfl; refine zk ?_; refine aV (cs := #[.slice none 0 0, .slice none 0 0, .slice none 0 0]) ?_ 0 _ rfl; refine zk ?_; exact jX.out) hb); replace HB := zA (af (zB HB) hb))); go_roundg k3
                         case measure => have := iU.out; have := mo.out; have := wO.out; omega
                         case rel => exact ⟨(true), (wrap64 (sJ + 1)), (fU), (fC), (fV), (.slice al1 fU.length afI), (.slice Cw fC.length BB), (.slice al3 fV.length afJ), zv, zv, H', ⟨by have := iU.out; have := mo.out; have := wO.out; omega⟩, ⟨by refine jF ?_; exact Kd.aQ fF.out (fun _ hk => hk.1.2)⟩, ⟨by refine jF ?_; exact Kd.aQ dR.out (fun _ hk => hk.1.1)⟩, ⟨by refine jF ?_; exact Kd.aQ dD.out (fun _ hk => trivial)⟩, ⟨by refine sM ?_; exact Kd.dF dV.out (fun _ hk => hk.1.1)⟩, ⟨zK fI⟩, ⟨zK gF⟩, ⟨zK iQ⟩, ⟨zB HB⟩⟩
                     · replace WI := Bool.eq_false_iff.mpr WI; subst WI; rw [if_neg (show ¬ (false = true) by decide)] at H; have H' := zA H; clear H; have aAJ := oq.out; have aAK := ou.out; have aAL := o5.out; have aAM := xW.out; obtain ⟨_, _, _, _⟩ := iG fI; obtain ⟨awm, awn, awo⟩ := Kd.bD eU.out; subst awo; go_wp2_with (first | ((with_reducible refine ay (f := 14) rfl ?_); refine zG (some 95) rfl Tryd.func14 #[.agg #[.int .i64 au, .slice aZ ah.length aW], .slice awm ru.length awn, .int .i64 a2] ?_; (with_reducible refine (ak.calls k3 au _ _ ah _ _ ru a2 kK kL lN PI _ ?aI ?aN ?bS ?bT A48.out).mono ?_); (case aI => exact jB cz HB); (case aN => exact dX.out); (case bS => repeat (first | exact (Kd.aU eU.out).2.2 | (with_reducible refine Kd.dY ?_ _) | (with_reducible refine Kd.dZ ?_ _) | (with_reducible refine Kd.fB ?_))); (case bT => exact (Kd.aU eU.out).2.1); rintro e w97 ⟨alW, alX, alY, rfl, ho0, ho1, ho2, hb⟩; refine ⟨_, rfl, ?_⟩; have qx := zA (Kd.dw (Kd.gz (Kd.gz (Kd.gz ho0 (Kd.kP (zR fF))) (Kd.kP (zR eU))) (Kd.kP (zR dR))) (aJ (zB HB))); have qy := zA (Kd.dw (Kd.gz ho1 (Kd.kP (zR dD))) (aJ (zB HB))); have qz := zA (Kd.pI (Kd.Bj (Kd.Bj ho2 (Kd.kP (zR dD))) (Kd.adD (zS dV))) (aJ (zB HB))); replace fF := zA (Kd.dQ (zR fF) (Kd.fe ho0) hb); replace eU := zA (Kd.dQ (zR eU) (Kd.fe ho0) hb); replace dR := zA (Kd.dQ (zR dR) (Kd.fe ho0) hb); replace dD := zA (Kd.dQ (zR dD) (Kd.fe ho1) hb); replace dV := zA (Kd.dF (Kd.CK (Kd.CK (Kd.VP (zS dV) hb) (Kd.fe ho1)) (Kd.N9 ho2)) (fun _ h_ => h_.1)); replace fI := zA (dn fI hb); replace gF := zA (dn gF hb); replace iQ := zA (dn iQ hb); replace HB := zA (af (zB HB) hb)) | ((with_reducible refine aH (N := 18) rfl ?_); refine zX (N := 18) (cs := #[.slice none 0 0, .slice none 0 0, .slice none 0 0]) (t := 28) ?_; intro dK hg w98 aG hb; have jX := zA (aG); have ade := zA (zW hg HB); have adf := zA (zW hg HB); have kH := zA (lZ hg fI); have vw := zA (l5 hg fI); have kI := zA (lZ hg gF); have vz := zA (l5 hg gF); have kJ := zA (lZ hg iQ); have vB := zA (l5 hg iQ); replace fF := zA (Kd.bf (zR fF) hb); replace eU := zA (Kd.bf (zR eU) hb); replace dR := zA (Kd.bf (zR dR) hb); replace dD := zA (Kd.bf (zR dD) hb); replace dV := zA (Kd.iY (zS dV) hb); replace qx := zA (Kd.bf (zR qx) hb); replace qy := zA (Kd.bf (zR qy) hb); replace qz := zA (Kd.iY (zS qz) hb); replace fI := zA (dn fI hb); replace gF := zA (dn gF hb); replace iQ := zA (dn iQ hb); replace HB := zA (af (zB HB) hb); clear hb aG hg; obtain ⟨LY, LZ, awp⟩ := Kd.bD qx.out; subst awp; have awq := vw.out; have awr := kH.out; have aws := vz.out; have awt := kI.out; have awu := vB.out; have awv := kJ.out; obtain ⟨_, _, _, _, _, _⟩ := nG jX; obtain ⟨Er, Es, arA⟩ := Kd.bD qy.out; subst arA; obtain ⟨Gv, Gw, arB⟩ := Kd.kX qz.out; subst arB; have aww := DT.out; have awx := qG.out; obtain ⟨_, _, _, _, _, _⟩ := nG iQ)); go_roundg k3
                       case measure => have := iU.out; have := mo.out; have := wO.out; omega
                       case rel => exact ⟨(true), (wrap64 (sJ + 1)), (kK), (kL), (lN), (.slice LY kK.length LZ), (.slice Er kL.length Es), (.slice Gv lN.length Gw), zv, zv, H', ⟨by have := iU.out; have := mo.out; have := wO.out; omega⟩, ⟨by refine jF ?_; exact Kd.aQ (Kd.aT (p := ⟨oN, 2, none⟩) (Kd.aT (p := ⟨oN, 1, none⟩) (Kd.aT (p := ⟨oN, 0, none⟩) (Kd.aT (p := ⟨dK, 2, none⟩) (Kd.aT (p := ⟨dK, 1, none⟩) (Kd.aT (p := ⟨dK, 0, none⟩) (Kd.bJ (Kd.bJ fF.out jX.out (by decide)) iQ.out (by decide)) (fun _ hk => hk.1.2) (.slice LY kK.length LZ)) (fun _ hk => hk.1.2) (.slice Er kL.length Es)) (fun _ hk => hk.1.2) (.slice Gv lN.length Gw)) (fun _ hk => hk.2) (.slice LY kK.length LZ)) (fun _ hk => hk.2) (.slice Er kL.length Es)) (fun _ hk => hk.2) (.slice Gv lN.length Gw)) (fun _ hk => hk.1.1.2)⟩, ⟨by refine jF ?_; exact Kd.aQ (Kd.aT (p := ⟨oN, 2, none⟩) (Kd.aT (p := ⟨oN, 1, none⟩) (Kd.aT (p := ⟨oN, 0, none⟩) (Kd.aT (p := ⟨dK, 2, none⟩) (Kd.aT (p := ⟨dK, 1, none⟩) (Kd.aT (p := ⟨dK, 0, none⟩) (Kd.bJ (Kd.bJ qx.out jX.out (by decide)) iQ.out (by decide)) (fun _ hk => hk.1.2) (.slice LY kK.length LZ)) (fun _ hk => hk.1.2) (.slice Er kL.length Es)) (fun _ hk => hk.1.2) (.slice Gv lN.length Gw)) (fun _ hk => hk.2) (.slice LY kK.length LZ)) (fun _ hk => hk.2) (.slice Er kL.length Es)) (fun _ hk => hk.2) (.slice Gv lN.length Gw)) (fun _ hk => hk.1.1.1.1.2)⟩, ⟨by refine jF ?_; exact Kd.aQ (Kd.aT (p := ⟨oN, 2, none⟩) (Kd.aT (p := ⟨oN, 1, none⟩) (Kd.aT (p := ⟨oN, 0, none⟩) (Kd.aT (p := ⟨dK, 2, none⟩) (Kd.aT (p := ⟨dK, 1, none⟩) (Kd.aT (p := ⟨dK, 0, none⟩) (Kd.bJ (Kd.bJ qy.out jX.out (by decide)) iQ.out (by decide)) (fun _ hk => hk.1.2) (.slice LY kK.length LZ)) (fun _ hk => hk.1.2) (.slice Er kL.length Es)) (fun _ hk => hk.1.2) (.slice Gv lN.length Gw)) (fun _ hk => hk.2) (.slice LY kK.length LZ)) (fun _ hk => hk.2) (.slice Er kL.length Es)) (fun _ hk => hk.2) (.slice Gv lN.length Gw)) (fun _ hk => trivial)⟩, ⟨by refine sM ?_; exact Kd.dF (Kd.eB (p := ⟨oN, 2, none⟩) (Kd.eB (p := ⟨oN, 1, none⟩) (Kd.eB (p := ⟨oN, 0, none⟩) (Kd.eB (p := ⟨dK, 2, none⟩) (Kd.eB (p := ⟨dK, 1, none⟩) (Kd.eB (p := ⟨dK, 0, none⟩) (Kd.jY (Kd.jY qz.out jX.out (by decide)) iQ.out (by decide)) (fun _ hk => hk.1.2) (.slice LY kK.length LZ)) (fun _ hk => hk.1.2) (.slice Er kL.length Es)) (fun _ hk => hk.1.2) (.slice Gv lN.length Gw)) (fun _ hk => hk.2) (.slice LY kK.length LZ)) (fun _ hk => hk.2) (.slice Er kL.length Es)) (fun _ hk => hk.2) (.slice Gv lN.length Gw)) (fun _ hk => hk.1.1.1.1)⟩, ⟨by refine iA o5.out ?_; refine iA o5.out ?_; refine iA o5.out ?_; refine iA kH.out ?_; refine iA kH.out ?_; refine iA kH.out ?_; refine zk ?_; exact fI.out⟩, ⟨by refine iA qG.out ?_; refine iA qG.out ?_; refine iA qG.out ?_; refine iA kI.out ?_; refine iA kI.out ?_; refine iA kI.out ?_; refine zk ?_; exact gF.out⟩, ⟨by refine zk ?_; refine aV (cs := #[.slice LY kK.length LZ, .slice Er kL.length Es, sS]) ?_ 2 _ rfl; refine zk ?_; refine aV (cs := #[.slice LY kK.length LZ, qR, sS]) ?_ 1 _ rfl; refine zk ?_; refine aV (cs := #[pg, qR, sS]) ?_ 0 _ rfl; refine iA kJ.out ?_; refine iA kJ.out ?_; refine iA kJ.out ?_; refine zk ?_; exact iQ.out⟩, ⟨zB HB⟩⟩
                   · rw [if_neg c49] at H; have ary : (PI == 0) = false := beq_eq_false_iff_ne.mpr c49; have arz : (PI != 0) = true := bne_iff_ne.mpr c49; have H' := zA H; clear H; have awy := oq.out; have awz := ou.out; have awC := o5.out; have awD := xW.out; obtain ⟨_, _, _, _⟩ := iG fI; obtain ⟨arC, arD, arE⟩ := Kd.bD eU.out; subst arE; go_wp2_with (first | ((with_reducible refine ay (f := 14) rfl ?_); refine zG (some 95) rfl Tryd.func14 #[.agg #[.int .i64 au, .slice aZ ah.length aW], .slice arC ru.length arD, .int .i64 a2] ?_; (with_reducible refine (ak.calls k3 au _ _ ah _ _ ru a2 kK kL lN PI _ ?aI ?aN ?bS ?bT A48.out).mono ?_); (case aI => exact jB cz HB); (case aN => exact dX.out); (case bS => repeat (first | exact (Kd.aU eU.out).2.2 | (with_reducible refine Kd.dY ?_ _) | (with_reducible refine Kd.dZ ?_ _) | (with_reducible refine Kd.fB ?_))); (case bT => exact (Kd.aU eU.out).2.1); rintro e aDr ⟨alW, alX, alY, rfl, ho0, ho1, ho2, hb⟩; refine ⟨_, rfl, ?_⟩; have qx := zA (Kd.dw (Kd.gz (Kd.gz (Kd.gz ho0 (Kd.kP (zR fF))) (Kd.kP (zR eU))) (Kd.kP (zR dR))) (aJ (zB HB))); have qy := zA (Kd.dw (Kd.gz ho1 (Kd.kP (zR dD))) (aJ (zB HB))); have qz := zA (Kd.pI (Kd.Bj (Kd.Bj ho2 (Kd.kP (zR dD))) (Kd.adD (zS dV))) (aJ (zB HB))); replace fF := zA (Kd.dQ (zR fF) (Kd.fe ho0) hb); replace eU := zA (Kd.dQ (zR eU) (Kd.fe ho0) hb); replace dR := zA (Kd.dQ (zR dR) (Kd.fe ho0) hb); replace dD := zA (Kd.dQ (zR dD) (Kd.fe ho1) hb); replace dV := zA (Kd.dF (Kd.CK (Kd.CK (Kd.VP (zS dV) hb) (Kd.fe ho1)) (Kd.N9 ho2)) (fun _ h_ => h_.1)); replace fI := zA (dn fI hb); replace gF := zA (dn gF hb); replace iQ := zA (dn iQ hb); replace HB := zA (af (zB HB) hb)) | ((with_reducible refine aH (N := 18) rfl ?_); refine zX (N := 18) (cs := #[.slice none 0 0, .slice none 0 0, .slice none 0 0]) (t := 28) ?_; intro dK hg aDs aG hb; have jX := zA (aG); have ade := zA (zW hg HB); have adf := zA (zW hg HB); have kH := zA (lZ hg fI); have vw := zA (l5 hg fI); have kI := zA (lZ hg gF); have vz := zA (l5 hg gF); have kJ := zA (lZ hg iQ); have vB := zA (l5 hg iQ); replace fF := zA (Kd.bf (zR fF) hb); replace eU := zA (Kd.bf (zR eU) hb); replace dR := zA (Kd.bf (zR dR) hb); replace dD := zA (Kd.bf (zR dD) hb); replace dV := zA (Kd.iY (zS dV) hb); replace qx := zA (Kd.bf (zR qx) hb); replace qy := zA (Kd.bf (zR qy) hb); replace qz := zA (Kd.iY (zS qz) hb); replace fI := zA (dn fI hb); replace gF := zA (dn gF hb); replace iQ := zA (dn iQ hb); replace HB := zA (af (zB HB) hb); clear hb aG hg; obtain ⟨XX, XY, arF⟩ := Kd.bD qx.out; subst arF; have awE := vw.out; have awF := kH.out; have awG := vz.out; have awH := kI.out; have awI := vB.out; have awJ := kJ.out; obtain ⟨_, _, _, _, _, _⟩ := nG jX; obtain ⟨XZ, X0, arG⟩ := Kd.bD qy.out; subst arG; obtain ⟨X3, X4, arH⟩ := Kd.kX qz.out; subst arH)); go_roundg k3
                     case measure => have := iU.out; have := mo.out; have := wO.out; omega
                     case rel => exact ⟨(Co), (wrap64 (sJ + 1)), (fU), (fC), (fV), (pg), (qR), (sS), zv, zv, H', ⟨by have := iU.out; have := mo.out; have := wO.out; omega⟩, ⟨by refine jF ?_; exact Kd.aQ (Kd.aT (p := ⟨dK, 2, none⟩) (Kd.aT (p := ⟨dK, 1, none⟩) (Kd.aT (p := ⟨dK, 0, none⟩) (Kd.bJ fF.out jX.out (by decide)) (fun _ hk => hk.2) (.slice XX kK.length XY)) (fun _ hk => hk.2) (.slice XZ kL.length X0)) (fun _ hk => hk.2) (.slice X3 lN.length X4)) (fun _ hk => hk.1.1.2)⟩, ⟨by refine jF ?_; exact Kd.aQ (Kd.aT (p := ⟨dK, 2, none⟩) (Kd.aT (p := ⟨dK, 1, none⟩) (Kd.aT (p := ⟨dK, 0, none⟩) (Kd.bJ dR.out jX.out (by decide)) (fun _ hk => hk.2) (.slice XX kK.length XY)) (fun _ hk => hk.2) (.slice XZ kL.length X0)) (fun _ hk => hk.2) (.slice X3 lN.length X4)) (fun _ hk => hk.1.1.1)⟩, ⟨by refine jF ?_; exact Kd.aQ (Kd.aT (p := ⟨dK, 2, none⟩) (Kd.aT (p := ⟨dK, 1, none⟩) (Kd.aT (p := ⟨dK, 0, none⟩) (Kd.bJ dD.out jX.out (by decide)) (fun _ hk => hk.2) (.slice XX kK.length XY)) (fun _ hk => hk.2) (.slice XZ kL.length X0)) (fun _ hk => hk.2) (.slice X3 lN.length X4)) (fun _ hk => trivial)⟩, ⟨by refine sM ?_; exact Kd.dF (Kd.eB (p := ⟨dK, 2, none⟩) (Kd.eB (p := ⟨dK, 1, none⟩) (Kd.eB (p := ⟨dK, 0, none⟩) (Kd.jY dV.out jX.out (by decide)) (fun _ hk => hk.2) (.slice XX kK.length XY)) (fun _ hk => hk.2) (.slice XZ kL.length X0)) (fun _ hk => hk.2) (.slice X3 lN.length X4)) (fun _ hk => hk.1.1.1)⟩, ⟨by refine iA kH.out ?_; refine iA kH.out ?_; refine iA kH.out ?_; refine zk ?_; exact fI.out⟩, ⟨by refine iA kI.out ?_; refine iA kI.out ?_; refine iA kI.out ?_; refine zk ?_; exact gF.out⟩, ⟨by refine iA kJ.out ?_; refine iA kJ.out ?_; refine iA kJ.out ?_; refine zk ?_; exact iQ.out⟩, ⟨zB HB⟩⟩
             · rw [if_neg c32] at H; have Q5 := decide_eq_false c32; clear c32; simp only [Option.some.injEq, Prod.mk.injEq] at H; obtain ⟨rfl, rfl, rfl, rfl⟩ := H; have awK := xW.out; have awL := o5.out; have awM := DT.out; have awN := qG.out; obtain ⟨_, _, _, _, _, _⟩ := nG iQ; obtain ⟨NN, NP, arI⟩ := Kd.bD dR.out; subst arI; have awO := ou.out; have awP := oq.out; obtain ⟨_, _, _, _, _, _⟩ := nG gF; obtain ⟨Te, Tf, arJ⟩ := Kd.bD dD.out; subst arJ; obtain ⟨X5, X6, arK⟩ := Kd.kX dV.out; subst arK; go_wp2; refine bodyPost_ret (iw rfl _ _ sI 28 #[.slice NN fU.length NP, .slice Te fC.length Tf, .slice X5 fV.length X6] (0, 0) _ rfl (by refine zk ?_; refine aV (cs := #[.slice NN fU.length NP, .slice Te fC.length Tf, .slice none 0 0]) ?_ 2 _ rfl; refine zk ?_; refine aV (cs := #[.slice NN fU.length NP, .slice none 0 0, .slice none 0 0]) ?_ 1 _ rfl; refine zk ?_; refine aV (cs := #[.slice none 0 0, .slice none 0 0, .slice none 0 0]) ?_ 0 _ rfl; refine zk ?_; exact gF.out) Tryd.underlying28 rfl (by kernel_rfl)) rfl ?_; exact ⟨_, _, _, by first | rfl | (simp [jf, jg] <;> rfl) | (simp only [← ac9, ← Dn]; first | rfl | (simp [jf, jg] <;> rfl)) | (simp [*, jf, jg] <;> rfl), by refine jF ?_; exact Kd.aQ (Kd.aT (p := ⟨sI, 2, none⟩) (Kd.aT (p := ⟨sI, 1, none⟩) (Kd.aT (p := ⟨sI, 0, none⟩) (Kd.bJ dR.out gF.out (by decide)) (fun _ hk => hk.2) (.slice NN fU.length NP)) (fun _ hk => hk.2) (.slice Te fC.length Tf)) (fun _ hk => hk.2) (.slice X5 fV.length X6)) (fun _ hk => trivial), by refine jF ?_; exact Kd.aQ (Kd.aT (p := ⟨sI, 2, none⟩) (Kd.aT (p := ⟨sI, 1, none⟩) (Kd.aT (p := ⟨sI, 0, none⟩) (Kd.bJ dD.out gF.out (by decide)) (fun _ hk => hk.2) (.slice NN fU.length NP)) (fun _ hk => hk.2) (.slice Te fC.length Tf)) (fun _ hk => hk.2) (.slice X5 fV.length X6)) (fun _ hk => trivial), by refine sM ?_; exact Kd.dF (Kd.eB (p := ⟨sI, 2, none⟩) (Kd.eB (p := ⟨sI, 1, none⟩) (Kd.eB (p := ⟨sI, 0, none⟩) (Kd.jY dV.out gF.out (by decide)) (fun _ hk => hk.2) (.slice NN fU.length NP)) (fun _ hk => hk.2) (.slice Te fC.length Tf)) (fun _ hk => hk.2) (.slice X5 fV.length X6)) (fun _ hk => hk.1), zB HB⟩
           · rw [if_neg Cf] at H; exact absurd H (by simp)
 · rw [if_neg c5] at H; have pM : (Iq == 0) = false := beq_eq_false_iff_ne.mpr c5; have yh : (Iq != 0) = true := bne_iff_ne.mpr c5; simp only [Option.some.injEq, Prod.mk.injEq] at H; obtain ⟨rfl, rfl, rfl, rfl⟩ := H; go_enter Tryd.func26, Tryd.ntmps26; go_wp2_with (first | ((with_reducible refine aH (N := 3) rfl ?_); refine zX (N := 3) (cs := #[.int .i64 au, .slice aZ ah.length aW]) (t := 24) ?_; intro Gu hg aDt aG hb; have fI := zA (aG); have arf := zA (zW hg HB); have arh := zA (zW hg HB); replace HB := zA (af (zB HB) hb); clear hb aG hg) | ((with_reducible refine aH (N := 6) rfl ?_); refine zX (N := 6) (cs := #[.slice none 0 0, .slice none 0 0, .slice none 0 0]) (t := 28) ?_; intro sI hg aDu aG hb; have gF := zA (aG); have ari := zA (zW hg HB); have arj := zA (zW hg HB); have oq := zA (lZ hg fI); have ou := zA (l5 hg fI); replace fI := zA (dn fI hb); replace HB := zA (af (zB HB) hb); clear hb aG hg; have awQ := oq.out; have awR := ou.out; obtain ⟨_, _, _, _⟩ := iG fI) | ((with_reducible refine ay (f := 32) rfl ?_); refine zG (some 23) rfl Tryd.func32 #[.agg #[.int .i64 au, .slice aZ ah.length aW], .slice A1 l1.length c1, .int .i64 a2] ?_; (with_reducible refine (bI.calls k au _ _ ah _ _ l1 a2 Iq _ ?aI ?aN ?bS ?bT A4.out).mono ?_); (case aI => exact jB cz HB); (case aN => exact dX.out); (case bS => exact jB HR1 HB); (case bT => exact rX.out); rintro e aDv ⟨rfl, hb⟩; refine ⟨_, rfl, ?_⟩; replace fI := zA (dn fI hb); replace gF := zA (dn gF hb); replace HB := zA (af (zB HB) hb); obtain ⟨_, _, _, _, _, _⟩ := nG gF)); refine bodyPost_ret (iw rfl _ _ sI 28 #[.slice none 0 0, .slice none 0 0, .slice none 0 0] (0, 0) _ rfl (by refine zk ?_; refine aV (cs := #[.slice none 0 0, .slice none 0 0, .slice none 0 0]) ?_ 2 _ rfl; refine zk ?_; refine aV (cs := #[.slice none 0 0, .slice none 0 0, .slice none 0 0]) ?_ 1 _ rfl; refine zk ?_; refine aV (cs := #[.slice none 0 0, .slice none 0 0, .slice none 0 0]) ?_ 0 _ rfl; refine zk ?_; exact gF.out) Tryd.underlying28 rfl (by kernel_rfl)) rfl ?_; exact ⟨_, _, _, ze, Ab, Ab, Ab, zB HB⟩
end Go.Proofs.YtjmdlmogdbhdhaaDoor.P
namespace Go.Proofs.YtjmdlmogdbhdhaaDoor.P
open Go.RowKit Go.Proofs.YtjmdlmogdbhdhaaDoorW.PrintWords Go.Proofs.YtjmdlmogdbhdhaaDoorW.PrintLast Go.Proofs.YtjmdlmogdbhdhaaDoorW.PrintMore
section
variable {N : Int} {L : List aD} {s : List Int} {kind : Int}
def CE (q : Int → Prop) (i : Nat) (l : List Int) : Prop := l.Pairwise (· < ·) ∧ ∀ x, x ∈ l ↔ (0 ≤ x ∧ x < (i : Int) ∧ q x)
theorem CE.nil (q : Int → Prop) : CE q 0 [] := ⟨by simp, fun x => by simp; omega⟩
theorem CE.put {q : Int → Prop} {i : Nat} {l : List Int} (h : CE q i l) (hq : q i) : CE q (i + 1) (l ++ [(i : Int)]) := by
  refine ⟨?_, fun x => ?_⟩
  · rw [List.pairwise_append]
    refine ⟨h.1, by simp, fun a ha b hb => ?_⟩
    obtain rfl := List.mem_singleton.1 hb
    exact ((h.2 a).1 ha).2.1
  · rw [List.mem_append, List.mem_singleton, h.2]
    constructor
    · rintro (⟨h1, h2, h3⟩ | rfl)
      · exact ⟨h1, by omega, h3⟩
      · exact ⟨by omega, by omega, hq⟩
    · rintro ⟨h1, h2, h3⟩
      by_cases e : x = i
      · exact .inr e
      · exact .inl ⟨h1, by omega, h3⟩
theorem CE.skip {q : Int → Prop} {i : Nat} {l : List Int} (h : CE q i l) (hq : ¬ q i) : CE q (i + 1) l := by
  refine ⟨h.1, fun x => ?_⟩
  rw [h.2]
  constructor
  · rintro ⟨h1, h2, h3⟩
    exact ⟨h1, by omega, h3⟩
  · rintro ⟨h1, h2, h3⟩
    refine ⟨h1, ?_, h3⟩
    by_cases e : x = i
    · rw [e] at h3; exact absurd h3 hq
    · omega
theorem CE.len {q : Int → Prop} {i : Nat} {l : List Int} (h : CE q i l) : (l.length : Int) ≤ i := by
  have := Ff l 0 i (by omega) h.1 (fun x hx => by have := (h.2 x).1 hx; omega)
  omega
def inC (N : Int) (s : List Int) (m : Nat) (x : Int) : Prop := x ∈ s ∨ ∃ j, ∃ h : j < (pX N s).length, m.testBit j = true ∧ x = (pX N s)[j]
theorem adh (hN : N ≤ 64) (hN0 : 0 ≤ N) (hs : mD N s) {m : Nat} {l : List Int} (h : CE (inC N s m) N.toNat l) : l = cnd N s m := by
  refine yR h.1 (Bp _) (fun x => ?_)
  rw [h.2, FY hN hs]
  constructor
  · rintro ⟨_, _, h3⟩
    exact h3
  · intro h3
    have := (FZ hN hs m).1 x ((FY hN hs m x).2 h3)
    exact ⟨this.1, by omega, h3⟩
theorem adi (hN : N ≤ 64) (hN0 : 0 ≤ N) {l : List Int} (h : CE (fun x => ¬ x ∈ s) N.toNat l) : l = pX N s := by
  refine yR h.1 (Bp _) (fun x => ?_)
  rw [h.2, DL hN]
  constructor
  · rintro ⟨h1, h2, h3⟩
    exact ⟨h1, by omega, h3⟩
  · rintro ⟨h1, h2, h3⟩
    exact ⟨h1, by omega, h3⟩
theorem uw (i : Nat) (hi : i ≤ 1000) : IntKind.u64.wrap (i : Int) = (i : Int) := De i (by omega)
theorem X7 (hN : N ≤ 40) (hs : mD N s) (hsl : s.length ≤ 40) (AQ : (pX N s).length ≤ 10) (m : Nat) (hm : m < 1024) (a : Nat) (ha : (a : Int) < N) {found : Bool} {l : List Int} (hl : CE (inC N s m) a l) {B1 : List Int} {B2 : List aD} {B3 : List (List aD)} {V : List Int × List aD × List (List aD) × Int}
    (ih : ∀ l2, CE (inC N s m) (a + 1) l2 → Ev (fun k => az.l2 k s kind (pX N s) found (m : Int) l2 ((a + 1 : Nat) : Int) N L B1 B2 B3) V) :
    ∀ (n i : Nat), n + i = (pX N s).length → ∀ b : Bool, (b = true ↔ (((a : Int) ∈ s) ∨ ∃ j, ∃ h : j < (pX N s).length, j < i ∧ m.testBit j = true ∧ (a : Int) = (pX N s)[j])) → Ev (fun k => az.l3 k s kind (pX N s) found (m : Int) l (a : Int) b (i : Int) N L B1 B2 B3) V
  | 0, i, hi, b, hb => by
    have hw := Ck a (by omega)
    have hll := hl.len
    have hb2 : b = true ↔ inC N s m (a : Int) := by
      rw [hb]
      unfold inC
      refine or_congr Iff.rfl ⟨?_, ?_⟩
      · rintro ⟨j, h, _, h2, h3⟩; exact ⟨j, h, h2, h3⟩
      · rintro ⟨j, h, h2, h3⟩; exact ⟨j, h, by omega, h2, h3⟩
    refine Ev.succ ?_
    simp only [az.l3, hw]
    refine Ev.neg (by omega) ?_
    cases b with
    | true => exact Ev.pos rfl (Ev.pos (by omega) (ih _ (hl.put (hb2.1 rfl))))
    | false => exact Ev.neg (by simp) (ih _ (hl.skip (fun h => by have := hb2.2 h; cases this)))
  | n + 1, i, hi, b, hb => by
    have hlt : i < (pX N s).length := by omega
    have hih := X7 hN hs hsl AQ m hm a ha hl ih n (i + 1) (by omega)
    have hrm := (DL (s := s) (N := N) (by omega) _).1 (List.getElem_mem hlt)
    refine Ev.succ ?_
    simp only [az.l3, pQ (pX N s) i hlt, Ck i (by omega), uw i (by omega)]
    refine Ev.pos (by omega) ?_
    cases b with
    | true =>
      refine Ev.pos rfl (hih true ?_)
      simp only [true_iff]
      rcases hb.1 rfl with h | ⟨j, h1, h2, h3⟩
      · exact .inl h
      · exact .inr ⟨j, h1, by omega, h3⟩
    | false =>
      have hno : ¬ ((a : Int) ∈ s ∨ ∃ j, ∃ h : j < (pX N s).length, j < i ∧ m.testBit j = true ∧ (a : Int) = (pX N s)[j]) := fun h => by have := hb.2 h; cases this
      refine Ev.neg (by simp) (Ev.pos (by omega) ?_)
      by_cases he : (pX N s)[i] = (a : Int)
      · refine Ev.pos he (Ev.pos (by omega) (hih _ ?_))
        have hmb := Le m i (by omega) (by omega)
        rw [beq_iff_eq, hmb]
        constructor
        · intro ht
          exact .inr ⟨i, hlt, by omega, ht, he.symm⟩
        · rintro (h | ⟨j, h1, h2, h3, h4⟩)
          · exact absurd (.inl h) hno
          · by_cases hji : j = i
            · rw [hji] at h3; exact h3
            · exact absurd (.inr ⟨j, h1, by omega, h3, h4⟩) hno
      · refine Ev.neg he (hih false ?_)
        simp only [Bool.false_eq_true, false_iff]
        rintro (h | ⟨j, h1, h2, h3, h4⟩)
        · exact hno (.inl h)
        · by_cases hji : j = i
          · subst hji; exact he h4.symm
          · exact hno (.inr ⟨j, h1, by omega, h3, h4⟩)
theorem X8 (hN : N ≤ 40) (hs : mD N s) (hsl : s.length ≤ 40) (AQ : (pX N s).length ≤ 10) (m : Nat) (hm : m < 1024) {found : Bool} {B1 : List Int} {B2 : List aD} {B3 : List (List aD)} {V : List Int × List aD × List (List aD) × Int}
    (hend : Ev (fun k => az.l2 k s kind (pX N s) found (m : Int) (cnd N s m) N N L B1 B2 B3) V) :
    ∀ (n a : Nat), ((n + a : Nat) : Int) = N → ∀ l, CE (inC N s m) a l → Ev (fun k => az.l2 k s kind (pX N s) found (m : Int) l (a : Int) N L B1 B2 B3) V
  | 0, a, ha, l, hl => by
    have : a = N.toNat := by omega
    rw [this] at hl
    rw [adh (by omega) (by omega) hs hl, show (a : Int) = N by omega]
    exact hend
  | n + 1, a, ha, l, hl => by
    have ih := X8 hN hs hsl AQ m hm hend n (a + 1) (by omega)
    refine Ev.succ ?_
    simp only [az.l2]
    refine Ev.pos (by omega) (Ev.bind (H9 s _ (by omega)) ?_)
    exact X7 hN hs hsl AQ m hm a (by omega) hl ih (pX N s).length 0 (by omega) _ (by simp)
theorem adj (a b : List Int) (hab : a.length = b.length) (ha : a.length ≤ 1000000) (c1 c2 : List aD) (d1 d2 : List (List aD)) : ∀ (n i : Nat), n + i = a.length → Ev (fun k => cK.l0 k (i : Int) a c1 d1 b c2 d2) (decide (cmpL (a.drop i) (b.drop i) < 0))
  | 0, i, hi => by
    refine Ev.succ ?_
    simp only [cK.l0]
    refine Ev.neg (by omega) ?_
    rw [List.drop_eq_nil_of_le (by omega), List.drop_eq_nil_of_le (show b.length ≤ i by omega)]
    exact Ev.const _
  | n + 1, i, hi => by
    have hlt : i < a.length := by omega
    have hlb : i < b.length := by omega
    have ih := adj a b hab ha c1 c2 d1 d2 n (i + 1) (by omega)
    refine Ev.succ ?_
    simp only [cK.l0, pQ a i hlt, pQ b i hlb, Ck i (by omega)]
    refine Ev.pos (by omega) (Ev.pos (by omega) (Ev.pos (by omega) ?_))
    rw [List.drop_eq_getElem_cons hlt, List.drop_eq_getElem_cons hlb, cmpL]
    by_cases h : a[i] = b[i]
    · have h0 : o8 a[i] b[i] = 0 := by unfold o8; simp [h]
      rw [if_pos h0]
      exact Ev.pos h ih
    · have h0 : ¬ o8 a[i] b[i] = 0 := by unfold o8; split <;> (try split) <;> omega
      rw [if_neg h0]
      refine Ev.neg h ?_
      have : decide (o8 a[i] b[i] < 0) = decide (a[i] < b[i]) := by
        refine decide_eq_decide.2 ?_
        unfold o8
        split
        · constructor <;> intro <;> omega
        · split <;> (constructor <;> intro <;> omega)
      rw [this]
      exact Ev.const _
theorem X9 (a b : Int) : o8 a b < 0 ↔ a < b := by
  unfold o8
  split
  · constructor <;> intro <;> omega
  · split <;> (constructor <;> intro <;> omega)
theorem J4 (a b : Int) : o8 a b = 0 ↔ a = b := by
  unfold o8
  split
  · constructor <;> intro <;> omega
  · split <;> (constructor <;> intro <;> omega)
theorem PK {l : List Int} {c : Int} (h : RJ l = c) : decide (RJ l < 0) = decide (c < 0) := by subst h; rfl
theorem awS (x y z : Int) : RJ [x, y, z] = if x = 0 then (if y = 0 then z else y) else x := by
  simp only [RJ]
  by_cases h1 : x = 0
  · rw [if_pos h1, if_pos h1]
    by_cases h2 : y = 0
    · rw [if_pos h2, if_pos h2]
      split
      · rename_i h3; exact h3.symm
      · rfl
    · rw [if_neg h2, if_neg h2]
  · rw [if_neg h1, if_neg h1]
theorem al4 (a b : List Int) (ha : a.length ≤ 1000000) (c1 c2 : List aD) (d1 d2 : List (List aD)) : Ev (fun k => cK.f k a c1 d1 b c2 d2) (decide (RJ [o8 (c1.length : Int) (c2.length : Int), o8 (a.length : Int) (b.length : Int), cmpL a b] < 0)) := by
  have h3 := awS (o8 (c1.length : Int) (c2.length : Int)) (o8 (a.length : Int) (b.length : Int)) (cmpL a b)
  simp only [cK.f]
  by_cases h1 : (c1.length : Int) = (c2.length : Int)
  · rw [if_pos ((J4 _ _).2 h1)] at h3
    refine Ev.pos h1 ?_
    by_cases h2 : (a.length : Int) = (b.length : Int)
    · rw [if_pos ((J4 _ _).2 h2)] at h3
      refine Ev.pos h2 ?_
      rw [PK h3]
      have := adj a b (by omega) ha c1 c2 d1 d2 a.length 0 (by omega)
      rw [List.drop_zero, List.drop_zero] at this
      exact this
    · rw [if_neg (fun e => h2 ((J4 _ _).1 e))] at h3
      refine Ev.neg h2 ?_
      rw [PK h3, show decide (o8 (a.length : Int) (b.length : Int) < 0) = decide ((a.length : Int) < (b.length : Int)) from decide_eq_decide.2 (X9 _ _)]
      exact Ev.const _
  · rw [if_neg (fun e => h1 ((J4 _ _).1 e))] at h3
    refine Ev.neg h1 ?_
    rw [PK h3, show decide (o8 (c1.length : Int) (c2.length : Int) < 0) = decide ((c1.length : Int) < (c2.length : Int)) from decide_eq_decide.2 (X9 _ _)]
    exact Ev.const _
def Match (N : Int) (L : List aD) (kind : Int) (st : List Int × Int) (found : Bool) (B1 : List Int) (B2 : List aD) (B3 : List (List aD)) : Prop :=
  (found = false ∧ st = ([], -1) ∧ B1 = [] ∧ B2 = [] ∧ B3 = []) ∨ (found = true ∧ B1 = st.1 ∧ B2 = EM N L st.1 kind ∧ B3 = qA N L st.1 kind ∧ st.2 = ((qA N L st.1 kind).length : Int))
theorem adk (hG : jd N L) (hs : mD N s) (hk : kind = 1 ∨ kind = 2) : vZ N L s kind = 0 := by
  have hl := mq hG
  have hsl := hs.len hG.n0 hG.n1
  obtain ⟨k1, h1⟩ := O9 (N := N) (L := L) (s := s) (kind := kind) (by omega) (by omega)
  obtain ⟨k2, h2⟩ := FH hG hs hk
  exact Option.some.inj ((h1 (max k1 k2) (by omega)).symm.trans (h2 (max k1 k2) (by omega)))
theorem Ya (hG : jd N L) (hs : mD N s) (hk : kind = 1 ∨ kind = 2) (AQ : (pX N s).length ≤ 10) :
    ∀ (n m : Nat), n + m = 2 ^ (pX N s).length → ∀ (st : List Int × Int) (found : Bool) (B1 : List Int) (B2 : List aD) (B3 : List (List aD)), Match N L kind st found B1 B2 B3 → (∀ f b1 b2 b3, Match N L kind (RL N L s kind n m st) f b1 b2 b3 → (b1, b2, b3, (0 : Int)) = (y8 N L s kind, EM N L (y8 N L s kind) kind, qA N L (y8 N L s kind) kind, 0)) →
      Ev (fun k => az.l1 k s kind (pX N s) found (m : Int) N L B1 B2 B3) (y8 N L s kind, EM N L (y8 N L s kind) kind, qA N L (y8 N L s kind) kind, 0)
  | 0, m, hm, st, found, B1, B2, B3, hM, hend => by
    have hsh : shl .i64 1 ((pX N s).length : Int) = ((2 ^ (pX N s).length : Nat) : Int) := by
      generalize (pX N s).length = r at AQ
      have : r = 0 ∨ r = 1 ∨ r = 2 ∨ r = 3 ∨ r = 4 ∨ r = 5 ∨ r = 6 ∨ r = 7 ∨ r = 8 ∨ r = 9 ∨ r = 10 := by omega
      rcases this with rfl | rfl | rfl | rfl | rfl | rfl | rfl | rfl | rfl | rfl | rfl <;> decide
    refine Ev.succ ?_
    simp only [az.l1, uw _ (show (pX N s).length ≤ 1000 by omega), hsh]
    refine Ev.pos (by omega) (Ev.neg (by omega) ?_)
    rw [hend found B1 B2 B3 hM]
    exact Ev.const _
  | n + 1, m, hm, st, found, B1, B2, B3, hM, hend => by
    have hsh : shl .i64 1 ((pX N s).length : Int) = ((2 ^ (pX N s).length : Nat) : Int) := by
      generalize (pX N s).length = r at AQ
      have : r = 0 ∨ r = 1 ∨ r = 2 ∨ r = 3 ∨ r = 4 ∨ r = 5 ∨ r = 6 ∨ r = 7 ∨ r = 8 ∨ r = 9 ∨ r = 10 := by omega
      rcases this with rfl | rfl | rfl | rfl | rfl | rfl | rfl | rfl | rfl | rfl | rfl <;> decide
    have hN := hG.n1
    have hN0 := hG.n0
    have hsl := hs.len hN0 hN
    have hgl := mq hG
    have hp : 2 ^ (pX N s).length ≤ 2 ^ 10 := Nat.pow_le_pow_right (by omega) AQ
    have hcs := FZ (s := s) (N := N) (by omega) hs m
    have hcl := hcs.len hN0 hN
    have ih := fun f b1 b2 b3 h => Ya hG hs hk AQ n (m + 1) (by omega) (Ej N L kind (cnd N s m) st) f b1 b2 b3 h hend
    have hsv := XU (N := N) (L := L) (s := cnd N s m) (kind := kind) (by omega) (by omega)
    unfold Mv at hsv
    rw [if_pos (adk hG hcs hk)] at hsv
    refine Ev.succ ?_
    simp only [az.l1, uw _ (show (pX N s).length ≤ 1000 by omega), hsh]
    refine Ev.pos (by omega) (Ev.pos (by omega) (X8 hN hs hsl AQ m (by omega) ?_ N.toNat 0 (by omega) [] (CE.nil _)))
    refine Ev.succ ?_
    simp only [az.l2, Ck m (by omega)]
    refine Ev.neg (by omega) (Ev.bind hsv ?_)
    unfold Ej at ih
    by_cases hh : jk N (cnd N s m) kind
    · rw [if_pos hh] at ih ⊢
      exact Ev.neg (by decide) (ih found B1 B2 B3 hM)
    · rw [if_neg hh] at ih ⊢
      refine Ev.pos rfl ?_
      have hnew : Match N L kind (cnd N s m, ((qA N L (cnd N s m) kind).length : Int)) true (cnd N s m) (EM N L (cnd N s m) kind) (qA N L (cnd N s m) kind) := .inr ⟨rfl, rfl, rfl, rfl, rfl⟩
      rcases hM with ⟨hf, hst, h1, h2, h3⟩ | ⟨hf, h1, h2, h3, h4⟩
      · subst hf
        rw [if_pos (by rw [hst]; show (-1 : Int) < 0; omega)] at ih
        exact Ev.neg (by simp) (ih true _ _ _ hnew)
      · subst hf h1 h2 h3
        rw [if_neg (by omega)] at ih
        refine Ev.pos rfl (Ev.bind (al4 (cnd N s m) st.1 (by omega) (EM N L (cnd N s m) kind) (EM N L st.1 kind) (qA N L (cnd N s m) kind) (qA N L st.1 kind)) ?_)
        have e1 : (EM N L (cnd N s m) kind).length = (qA N L (cnd N s m) kind).length := by unfold EM; rw [List.length_map]
        have e2 : (EM N L st.1 kind).length = (qA N L st.1 kind).length := by unfold EM; rw [List.length_map]
        rw [e1, e2, ← h4]
        by_cases ho : RJ [o8 ((qA N L (cnd N s m) kind).length : Int) st.2, o8 ((cnd N s m).length : Int) (st.1.length : Int), cmpL (cnd N s m) st.1] < 0
        · rw [if_pos ho] at ih
          exact Ev.pos (decide_eq_true ho) (ih true _ _ _ hnew)
        · rw [if_neg ho] at ih
          exact Ev.neg (fun e => ho (of_decide_eq_true e)) (ih true _ _ _ (.inr ⟨rfl, rfl, rfl, rfl, h4⟩))
theorem Yb (hG : jd N L) (hs : mD N s) {V : List Int × List aD × List (List aD) × Int} (h1 : (pX N s).length ≤ 10 → Ev (fun k => az.l1 k s kind (pX N s) false 0 N L [] [] []) V) (h2 : ¬ (pX N s).length ≤ 10 → V = ([], [], [], 2)) :
    ∀ (n a : Nat), ((n + a : Nat) : Int) = N → ∀ l, CE (fun x => ¬ x ∈ s) a l → Ev (fun k => az.l0 k s kind l (a : Int) N L) V
  | 0, a, ha, l, hl => by
    have hN := hG.n1
    have : a = N.toNat := by omega
    rw [this] at hl
    rw [adi (by omega) (by omega) hl]
    refine Ev.succ ?_
    simp only [az.l0]
    refine Ev.neg (by omega) ?_
    by_cases hr : (pX N s).length ≤ 10
    · exact Ev.neg (by omega) (h1 hr)
    · rw [h2 hr]
      exact Ev.pos (by omega) (Ev.const _)
  | n + 1, a, ha, l, hl => by
    have hN := hG.n1
    have hsl := hs.len hG.n0 hG.n1
    have hll := hl.len
    have ih := Yb hG hs h1 h2 n (a + 1) (by omega)
    refine Ev.succ ?_
    simp only [az.l0, Ck a (by omega)]
    refine Ev.pos (by omega) (Ev.bind (H9 s _ (by omega)) ?_)
    by_cases h : (a : Int) ∈ s
    · exact Ev.pos (decide_eq_true h) (ih l (hl.skip (fun hn => hn h)))
    · exact Ev.neg (fun e => h (of_decide_eq_true e)) (Ev.pos (by omega) (ih _ (hl.put h)))
def PL (N : Int) (L : List aD) (s : List Int) (kind : Int) : List Int × List aD × List (List aD) × Int :=
  if vZ N L s kind = 0 then (if (pX N s).length ≤ 10 then (y8 N L s kind, EM N L (y8 N L s kind) kind, qA N L (y8 N L s kind) kind, 0) else ([], [], [], 2)) else ([], [], [], vZ N L s kind)
theorem afK (hL : L.length ≤ 1000000) (hsl : s.length ≤ 1000000) : Ev (fun k => az.f k N L s kind) (PL N L s kind) := by
  simp only [az.f]
  refine Ev.bind (Xm hL hsl) ?_
  unfold PL
  by_cases hp : vZ N L s kind = 0
  · rw [if_pos hp]
    refine Ev.pos hp ?_
    obtain ⟨hG, hs, hk⟩ := uY hp
    have hN := hG.n1
    have hN0 := hG.n0
    refine Yb hG hs (fun hr => ?_) (fun hr => by rw [if_neg hr]) N.toNat 0 (by omega) [] (CE.nil _)
    rw [if_pos hr]
    refine Ya hG hs hk hr (2 ^ (pX N s).length) 0 (by omega) ([], -1) false [] [] [] (.inl ⟨rfl, rfl, rfl, rfl, rfl⟩) (fun f b1 b2 b3 hM => ?_)
    have hinv := Ig (N := N) (L := L) (s := s) (kind := kind) (2 ^ (pX N s).length) 0 ([], -1) (.inl ⟨rfl, fun j hj => absurd hj (by omega)⟩)
    rcases hM with ⟨_, hst, h1, h2, h3⟩ | ⟨_, h1, h2, h3, _⟩
    · exfalso
      obtain ⟨j, hj, hj1, hj2, _⟩ := Dm (N := N) (L := L) (s := s) (kind := kind) (by omega) hs
      rw [Nat.add_zero] at hinv
      rcases hinv with ⟨_, hall⟩ | ⟨_, _, _, _, h5, _⟩
      · exact hj2 (hall j hj)
      · rw [hst] at h5
        simp only at h5
        omega
    · rw [h1, h2, h3]
      rfl
  · rw [if_neg hp]
    exact Ev.neg hp (Ev.const _)
theorem al5 (hL : L.length ≤ 1000000) (hsl : s.length ≤ 1000000) : Ev (fun k => bV.f k N L s kind) (PL N L s kind) := by
  by_cases hp : vZ N L s kind = 0
  · obtain ⟨hG, hs, hk⟩ := uY hp
    have hN := hG.n1
    unfold PL
    rw [if_pos hp]
    by_cases hr : (pX N s).length ≤ 10
    · rw [if_pos hr]
      exact ack hG hs hk hr
    · rw [if_neg hr]
      obtain ⟨u, e1, hu⟩ := hs.of hG.n0 hG.n1
      obtain ⟨al, uI, out, e2, D6⟩ := OE hG
      have awT : Ev (fun k => bQ.f k (Go.bits .andNot .u64 al u)) (pX N s) := DJ (D6.al.andNot hu)
      simp only [bV.f]
      exact Ev.bind (FH hG hs hk) (Ev.pos rfl (Ev.bind e1 (Ev.bind e2 (Ev.bind awT (Ev.pos (by omega) (Ev.const _))))))
  · simp only [bV.f]
    refine Ev.bind (O9 hL hsl) ?_
    unfold PL
    rw [if_neg hp]
    exact Ev.neg hp (Ev.const _)
end
section
variable {N : Int} {L : List aD} {s : List Int} {kind : Int} {ch : List aD} {ob ds : List (List aD)}
theorem adl (hG : jd N L) (hs : mD N s) (kind : Int) : ∀ d ∈ qA N L s kind, d.length ≤ 1000000 := by
  intro d hd
  have hsl := hs.len hG.n0 hG.n1
  rcases (xm hG.n0 L s kind _).1 hd with ⟨p, _, _, _, h⟩ | ⟨a, _, hsk, h⟩
  · rw [h]; simp
  · rw [h]
    unfold wC
    rw [(yo _).length_eq]
    unfold Uz
    rw [List.length_append, List.length_map]
    have := DK (fun b => TA L a b && inl s b)
    split
    · rw [List.length_map]; unfold back; omega
    · simp; omega
end
end Go.Proofs.YtjmdlmogdbhdhaaDoor.P
namespace Go.Proofs.YtjmdlmogdbhdhaaDoor.P
open Go.RowKit Go.Proofs.YtjmdlmogdbhdhaaDoorW.PrintWords Go.Proofs.YtjmdlmogdbhdhaaDoorW.PrintLast Go.Proofs.YtjmdlmogdbhdhaaDoorW.PrintMore
attribute [local go_sem] iI iJ jP jQ gH gI iK iL
set_option linter.unusedVariables false
set_option linter.unusedSimpArgs false
set_option maxHeartbeats 8000000
set_option maxRecDepth 100000
mutual
def bq.j0 : Nat → Bool → List Int → List (aD) → List (List (aD)) → List Int → List (aD) → List (List (aD)) → Option (Bool)
 | 0, _, _, _, _, _, _, _ => none
 | k + 1, x30, zn, DU, zu, zw, DV, zy => if x30 = true then (some false) else (bq.l0 k 0 zn DU zu zw DV zy)
def bq.l0 : Nat → Int → List Int → List (aD) → List (List (aD)) → List Int → List (aD) → List (List (aD)) → Option (Bool)
 | 0, _, _, _, _, _, _, _ => none
 | k + 1, x5, zn, DU, zu, zw, DV, zy => if x5 < (zn.length : Int) then (if 0 ≤ x5 then (if x5 < (zw.length : Int) then (if (rd zn x5) = (rd zw x5) then (bq.l0 k (wrap64 (x5 + 1)) zn DU zu zw DV zy) else (some false)) else (none)) else (none)) else (bq.l1 k 0 zn DU zu zw DV zy)
def bq.l1 : Nat → Int → List Int → List (aD) → List (List (aD)) → List Int → List (aD) → List (List (aD)) → Option (Bool)
 | 0, _, _, _, _, _, _, _ => none
 | k + 1, x6, zn, DU, zu, zw, DV, zy => if x6 < (zu.length : Int) then (if 0 ≤ x6 then (if x6 < (zy.length : Int) then ((bz.f k (bC zu x6) (bC zy x6)).bind fun al6 => (if al6 = true then (bq.l1 k (wrap64 (x6 + 1)) zn DU zu zw DV zy) else (some false))) else (none)) else (none)) else (some true)
end
def bq.f (k : Nat) (jC : List Int) (ah : List (aD)) (eF : List (List (aD))) (jD : List Int) (kz : List (aD)) (lX : List (List (aD))) : Option (Bool) := if (jC.length : Int) = (jD.length : Int) then (if (eF.length : Int) = (lX.length : Int) then ((bz.f k ah kz).bind fun Tg => (bq.j0 k (!Tg) jC ah eF jD kz lX)) else (bq.j0 k true jC ah eF jD kz lX)) else (bq.j0 k true jC ah eF jD kz lX)
theorem bq.calls (k : Nat) (zL : Option Addr) (zM : Nat) (jC : List Int) (aZ : Option Addr) (aW : Nat) (ah : List (aD)) (mg : Option Addr) (mh : Nat) (eF : List (List (aD))) (zN : Option Addr) (zO : Nat) (jD : List Int) (vQ : Option Addr) (vR : Nat) (kz : List (aD)) (zP : Option Addr) (zQ : Nat) (lX : List (List (aD))) (r : Bool) (w : World) (SL : Kd.C (Kd.int .i64) w zL jC.length jC) (SQ : jC.length ≤ zM) (eY : Kd.C gm w aZ ah.length ah) (eZ : ah.length ≤ aW) (tH : Kd.C (Kd.slice 42 gm) w mg eF.length eF) (tJ : eF.length ≤ mh) (SS : Kd.C (Kd.int .i64) w zN jD.length jD) (SV : jD.length ≤ zO) (IZ : Kd.C gm w vQ kz.length kz) (I1 : kz.length ≤ vR) (SX : Kd.C (Kd.slice 42 gm) w zP lX.length lX) (SY : lX.length ≤ zQ) (h : bq.f k jC ah eF jD kz lX = some r) :
 Calls Tryd.prog 27 #[.agg #[.slice zL jC.length zM, .slice aZ ah.length aW, .slice mg eF.length mh], .agg #[.slice zN jD.length zO, .slice vQ kz.length vR, .slice zP lX.length zQ]] w fun e w' => e = .returned (.bool r) ∧ Below w.heap.size w w' := by
 have Mo := Tryd.underlying28; have NL := zA SL; have aq9 := zA SQ; clear SL SQ; have cz := zA eY; have dX := zA eZ; clear eY eZ; have vT := zA tH; have yS := zA tJ; clear tH tJ; have NM := zA SS; have ara := zA SV; clear SS SV; have MV := zA IZ; have MW := zA I1; clear IZ I1; have ac8 := zA SX; have arb := zA SY; clear SX SY; have HB := zA (Below.refl w.heap.size w); have H : (if (jC.length : Int) = (jD.length : Int) then (if (eF.length : Int) = (lX.length : Int) then ((bz.f k ah kz).bind fun Tg => (bq.j0 k (!Tg) jC ah eF jD kz lX)) else (bq.j0 k true jC ah eF jD kz lX)) else (bq.j0 k true jC ah eF jD kz lX)) = some r := h; clear h; have HC3 := zA H; clear H; go_enter Tryd.func27, Tryd.ntmps27; go_upto_region 1 with (first | ((with_reducible refine aH (N := 2) rfl ?_); (try (refine iV (by rfl) ?_; dsimp only)); refine zX (N := 2) (cs := #[.slice zL jC.length zM, .slice aZ ah.length aW, .slice mg eF.length mh]) (t := 28) ?_; intro Ti hg w4 aG hb; have nK := zA (aG); have ah5 := zA (zW hg HB); have ah6 := zA (zW hg HB); replace HB := zA (af (zB HB) hb); clear hb aG hg) | ((with_reducible refine aH (N := 3) rfl ?_); (try (refine iV (by rfl) ?_; dsimp only)); refine zX (N := 3) (cs := #[.slice zN jD.length zO, .slice vQ kz.length vR, .slice zP lX.length zQ]) (t := 28) ?_; intro Tj hg w5 aG hb; have uF := zA (aG); have ah7 := zA (zW hg HB); have ah8 := zA (zW hg HB); have p9 := zA (lZ hg nK); have qa := zA (l5 hg nK); replace nK := zA (dn nK hb); replace HB := zA (af (zB HB) hb); clear hb aG hg))
 repeat (go_quiet (first | ((with_reducible refine aH (N := 2) rfl ?_); (try (refine iV (by rfl) ?_; dsimp only)); refine zX (N := 2) (cs := #[.slice zL jC.length zM, .slice aZ ah.length aW, .slice mg eF.length mh]) (t := 28) ?_; intro Ti hg w4 aG hb; have nK := zA (aG); have ah5 := zA (zW hg HB); have ah6 := zA (zW hg HB); replace HB := zA (af (zB HB) hb); clear hb aG hg) | ((with_reducible refine aH (N := 3) rfl ?_); (try (refine iV (by rfl) ?_; dsimp only)); refine zX (N := 3) (cs := #[.slice zN jD.length zO, .slice vQ kz.length vR, .slice zP lX.length zQ]) (t := 28) ?_; intro Tj hg w5 aG hb; have uF := zA (aG); have ah7 := zA (zW hg HB); have ah8 := zA (zW hg HB); have p9 := zA (lZ hg nK); have qa := zA (l5 hg nK); replace nK := zA (dn nK hb); replace HB := zA (af (zB HB) hb); clear hb aG hg)); go_upto_region 1 with (first | ((with_reducible refine aH (N := 2) rfl ?_); (try (refine iV (by rfl) ?_; dsimp only)); refine zX (N := 2) (cs := #[.slice zL jC.length zM, .slice aZ ah.length aW, .slice mg eF.length mh]) (t := 28) ?_; intro Ti hg w4 aG hb; have nK := zA (aG); have ah5 := zA (zW hg HB); have ah6 := zA (zW hg HB); replace HB := zA (af (zB HB) hb); clear hb aG hg) | ((with_reducible refine aH (N := 3) rfl ?_); (try (refine iV (by rfl) ?_; dsimp only)); refine zX (N := 3) (cs := #[.slice zN jD.length zO, .slice vQ kz.length vR, .slice zP lX.length zQ]) (t := 28) ?_; intro Tj hg w5 aG hb; have uF := zA (aG); have ah7 := zA (zW hg HB); have ah8 := zA (zW hg HB); have p9 := zA (lZ hg nK); have qa := zA (l5 hg nK); replace nK := zA (dn nK hb); replace HB := zA (af (zB HB) hb); clear hb aG hg)))
 (try simp only [Act.put, List.setIfInBounds_toArray, List.set_cons_zero, List.set_cons_succ]); go_cut [30] (fun v30 wc => ∃ (kq : Nat) (Yc : Bool), v30 = .bool Yc ∧ ag (bq.j0 kq Yc jC ah eF jD kz lX = some r) ∧ ag (kq ≤ k) ∧ ag (wc.heap[Ti]? = some (.cells #[(.slice zL jC.length zM), (.slice aZ ah.length aW), (.slice mg eF.length mh)] 28 (0, 0))) ∧ ag (wc.heap[Tj]? = some (.cells #[(.slice zN jD.length zO), (.slice vQ kz.length vR), (.slice zP lX.length zQ)] 28 (0, 0))) ∧ ag (Below w.heap.size w wc))
 case first =>
  have H := HC3.out; clear HC3; by_cases c6 : (jC.length : Int) = (jD.length : Int)
  · rw [if_pos c6] at H; have yH : ((jC.length : Int) == (jD.length : Int)) = true := beq_iff_eq.mpr c6; have YY : ((jC.length : Int) != (jD.length : Int)) = false := bne_eq_false_iff_eq.mpr c6; have ajd : (jC.length == jD.length) = true := by first | simpa using c6 | (simp at c6 ⊢; omega)
    clear c6; (first | rw [yH] | (simp only [nE, qJ]; rw [yH]) | skip); by_cases c7 : (eF.length : Int) = (lX.length : Int)
    · rw [if_pos c7] at H; have Am : ((eF.length : Int) == (lX.length : Int)) = true := beq_iff_eq.mpr c7; have OJ : ((eF.length : Int) != (lX.length : Int)) = false := bne_eq_false_iff_eq.mpr c7; have aku : (eF.length == lX.length) = true := by first | simpa using c7 | (simp at c7 ⊢; omega)
      clear c7; replace H := zE H; obtain ⟨Tg, A8, H⟩ := H; (try dsimp only at H); have H' := zA H; clear H; have ai7 := p9.out; have ai8 := qa.out; obtain ⟨_, _, _, _, _, _⟩ := nG nK; obtain ⟨_, _, _, _, _, _⟩ := nG uF; go_wp2_with (first | (go_at_call 31; (with_reducible refine (bz.calls k _ _ ah _ _ kz Tg _ ?aI ?aN ?bS ?bT A8.out).mono ?_); (case aI => exact jB cz HB); (case aN => exact dX.out); (case bS => exact jB MV HB); (case bT => exact MW.out); rintro e w' ⟨rfl, ⟨nd, rfl⟩⟩; (try first | exact ⟨rfl, _, World.drewN_drewN _ _ _⟩ | exact ⟨rfl, _, Eq.trans (World.drewN_drewN _ _ _) (congrArg (World.drewN _) (Nat.add_assoc _ _ _))⟩))); repeat (go_quiet (first | (go_at_call 31; (with_reducible refine (bz.calls k _ _ ah _ _ kz Tg _ ?aI ?aN ?bS ?bT A8.out).mono ?_); (case aI => exact jB cz HB); (case aN => exact dX.out); (case bS => exact jB MV HB); (case bT => exact MW.out); rintro e w' ⟨rfl, ⟨nd, rfl⟩⟩; (try first | exact ⟨rfl, _, World.drewN_drewN _ _ _⟩ | exact ⟨rfl, _, Eq.trans (World.drewN_drewN _ _ _) (congrArg (World.drewN _) (Nat.add_assoc _ _ _))⟩))); try go_wp2_with (first | (go_at_call 31; (with_reducible refine (bz.calls k _ _ ah _ _ kz Tg _ ?aI ?aN ?bS ?bT A8.out).mono ?_); (case aI => exact jB cz HB); (case aN => exact dX.out); (case bS => exact jB MV HB); (case bT => exact MW.out); rintro e w' ⟨rfl, ⟨nd, rfl⟩⟩; (try first | exact ⟨rfl, _, World.drewN_drewN _ _ _⟩ | exact ⟨rfl, _, Eq.trans (World.drewN_drewN _ _ _) (congrArg (World.drewN _) (Nat.add_assoc _ _ _))⟩))))
      go_meet
      case rel => exact ⟨_, (!Tg), zv, H', ⟨by first | omega | exact Nat.le_refl _⟩, ⟨zK nK⟩, ⟨zK uF⟩, ⟨zB HB⟩⟩
    · rw [if_neg c7] at H; have Am : ((eF.length : Int) == (lX.length : Int)) = false := beq_eq_false_iff_ne.mpr c7; have OJ : ((eF.length : Int) != (lX.length : Int)) = true := bne_iff_ne.mpr c7; have aku : (eF.length == lX.length) = false := by first | simpa using c7 | (simp at c7 ⊢; omega)
      have H' := zA H; clear H; have QL := p9.out; have QM := qa.out; obtain ⟨_, _, _, _, _, _⟩ := nG nK; obtain ⟨_, _, _, _, _, _⟩ := nG uF; go_wp2; repeat (go_quiet (fail); try go_wp2)
      go_meet
      case rel => exact ⟨_, (true), zv, H', ⟨by first | omega | exact Nat.le_refl _⟩, ⟨zK nK⟩, ⟨zK uF⟩, ⟨zB HB⟩⟩
  · rw [if_neg c6] at H; have yH : ((jC.length : Int) == (jD.length : Int)) = false := beq_eq_false_iff_ne.mpr c6; have YY : ((jC.length : Int) != (jD.length : Int)) = true := bne_iff_ne.mpr c6; have ajd : (jC.length == jD.length) = false := by first | simpa using c6 | (simp at c6 ⊢; omega)
    (first | rw [yH] | (simp only [nE, qJ]; rw [yH]) | skip); have H' := zA H; clear H; have aAN := p9.out; have aAO := qa.out; obtain ⟨_, _, _, _, _, _⟩ := nG nK; obtain ⟨_, _, _, _, _, _⟩ := nG uF; go_wp2; repeat (go_quiet (fail); try go_wp2)
    go_meet
    case rel => exact ⟨_, (true), zv, H', ⟨by first | omega | exact Nat.le_refl _⟩, ⟨zK nK⟩, ⟨zK uF⟩, ⟨zB HB⟩⟩
 case rest =>
  clear HC3
  obtain ⟨kq, Yc, rfl, HA, HJ2, nK, uF, HB⟩ := hcut; cases kq with
  | zero => exact absurd HA.out (by simp [bq.j0])
  | succ kj2 =>
   have H := HA.out; clear HA; simp only [bq.j0] at H; by_cases c18 : Yc = true
   · subst c18; rw [if_pos rfl] at H; obtain rfl := Option.some.inj H; go_wp2; repeat (go_quiet (fail); try go_wp2)
     go_ret; exact ⟨ze, zB HB⟩
   · replace c18 := Bool.eq_false_iff.mpr c18; subst c18; rw [if_neg (show ¬ (false = true) by decide)] at H; have H' := zA H; clear H; go_wp2; repeat (go_quiet (fail); try go_wp2)
     go_loopg [5] kj2 (fun kq v5 w' => ∃ (uG : Int), v5 = .int .i64 uG ∧ ag (bq.l0 kq uG jC ah eF jD kz lX = some r) ∧ ag (kq ≤ kj2) ∧ ag (w'.heap[Ti]? = some (.cells #[(.slice zL jC.length zM), (.slice aZ ah.length aW), (.slice mg eF.length mh)] 28 (0, 0))) ∧ ag (w'.heap[Tj]? = some (.cells #[(.slice zN jD.length zO), (.slice vQ kz.length vR), (.slice zP lX.length zQ)] 28 (0, 0))) ∧ ag (Below w.heap.size w w'))
     case atStart => exact ⟨(0), zv, H', ⟨Nat.le_refl _⟩, ⟨zK nK⟩, ⟨zK uF⟩, ⟨zB HB⟩⟩
     case round =>
      clear H'
      obtain ⟨uG, rfl, HA, mo, nK, uF, HB⟩ := hrel; cases gk with
      | zero => exact absurd HA.out (by simp [bq.l0])
      | succ k2 =>
       have H := HA.out; clear HA; simp only [bq.l0] at H; by_cases c19 : uG < (jC.length : Int)
       · rw [if_pos c19] at H; have V7 := decide_eq_true c19; clear c19; by_cases c20 : 0 ≤ uG
         · rw [if_pos c20] at H; have Fx := decide_eq_true c20; clear c20; by_cases c21 : uG < (jD.length : Int)
           · rw [if_pos c21] at H; have aql := decide_eq_true c21; clear c21; by_cases DZ : (rd jC uG) = (rd jD uG)
             · rw [if_pos DZ] at H; have Lh : ((rd jC uG) == (rd jD uG)) = true := beq_iff_eq.mpr DZ; have arL : ((rd jC uG) != (rd jD uG)) = false := bne_eq_false_iff_eq.mpr DZ; clear DZ; have H' := zA H; clear H; have ab1 := p9.out; have ab2 := qa.out; obtain ⟨_, _, _, _, _, _⟩ := nG nK; have Vu : 0 ≤ (uG : Int) := zo; have Vv : uG < (jC.length : Int) := zo; obtain ⟨arM, al7, Gx⟩ := Kd.eP NL.out uG Vu Vv; cases al7; replace Gx := (zx HB Gx :); replace Vu := eq_true Vu; replace Vv := eq_true Vv; obtain ⟨_, _, _, _, _, _⟩ := nG uF; have Vw : 0 ≤ (uG : Int) := zo; have Vx : uG < (jD.length : Int) := zo; obtain ⟨arN, al8, Gy⟩ := Kd.eP NM.out uG Vw Vx; cases al8; replace Gy := (zx HB Gy :); replace Vw := eq_true Vw; replace Vx := eq_true Vx; go_wp2; repeat (go_quiet (fail); try go_wp2)
               go_roundg k2
               case measure => have := HJ2.out; have := mo.out; omega
               case rel => exact ⟨(wrap64 (uG + 1)), zv, H', ⟨by have := HJ2.out; have := mo.out; omega⟩, ⟨zK nK⟩, ⟨zK uF⟩, ⟨zB HB⟩⟩
             · rw [if_neg DZ] at H; have Lh : ((rd jC uG) == (rd jD uG)) = false := beq_eq_false_iff_ne.mpr DZ; have arL : ((rd jC uG) != (rd jD uG)) = true := bne_iff_ne.mpr DZ; obtain rfl := Option.some.inj H; have Wl := p9.out; have Wm := qa.out; obtain ⟨_, _, _, _, _, _⟩ := nG nK; have Vu : 0 ≤ (uG : Int) := zo; have Vv : uG < (jC.length : Int) := zo; obtain ⟨arM, al7, Gx⟩ := Kd.eP NL.out uG Vu Vv; cases al7; replace Gx := (zx HB Gx :); replace Vu := eq_true Vu; replace Vv := eq_true Vv; obtain ⟨_, _, _, _, _, _⟩ := nG uF; have Vw : 0 ≤ (uG : Int) := zo; have Vx : uG < (jD.length : Int) := zo; obtain ⟨arN, al8, Gy⟩ := Kd.eP NM.out uG Vw Vx; cases al8; replace Gy := (zx HB Gy :); replace Vw := eq_true Vw; replace Vx := eq_true Vx; go_wp2; repeat (go_quiet (fail); try go_wp2)
               go_ret; exact ⟨ze, zB HB⟩
           · rw [if_neg c21] at H; exact absurd H (by simp)
         · rw [if_neg c20] at H; exact absurd H (by simp)
       · rw [if_neg c19] at H; have V7 := decide_eq_false c19; clear c19; have H' := zA H; clear H; have QG := p9.out; have QH := qa.out; obtain ⟨_, _, _, _, _, _⟩ := nG nK; go_wp2; repeat (go_quiet (fail); try go_wp2)
         go_loopg [6] k2 (fun kq v6 w' => ∃ (tu : Int), v6 = .int .i64 tu ∧ ag (bq.l1 kq tu jC ah eF jD kz lX = some r) ∧ ag (kq ≤ k2) ∧ ag (w'.heap[Ti]? = some (.cells #[(.slice zL jC.length zM), (.slice aZ ah.length aW), (.slice mg eF.length mh)] 28 (0, 0))) ∧ ag (w'.heap[Tj]? = some (.cells #[(.slice zN jD.length zO), (.slice vQ kz.length vR), (.slice zP lX.length zQ)] 28 (0, 0))) ∧ ag (Below w.heap.size w w'))
         case atStart => exact ⟨(0), zv, H', ⟨Nat.le_refl _⟩, ⟨zK nK⟩, ⟨zK uF⟩, ⟨zB HB⟩⟩
         case round =>
          clear H'
          obtain ⟨tu, rfl, HA, wO, nK, uF, HB⟩ := hrel; cases gk with
          | zero => exact absurd HA.out (by simp [bq.l1])
          | succ k3 =>
           have H := HA.out; clear HA; simp only [bq.l1] at H; by_cases c31 : tu < (eF.length : Int)
           · rw [if_pos c31] at H; have Nb := decide_eq_true c31; clear c31; by_cases c32 : 0 ≤ tu
             · rw [if_pos c32] at H; have Q5 := decide_eq_true c32; clear c32; by_cases Cj : tu < (lX.length : Int)
               · rw [if_pos Cj] at H; have I9 := decide_eq_true Cj; clear Cj; replace H := zE H; obtain ⟨al6, A34, H⟩ := H; (try dsimp only at H); by_cases Fa : al6 = true
                 · subst Fa; rw [if_pos rfl] at H; have H' := zA H; clear H; have Wd := p9.out; have We := qa.out; obtain ⟨_, _, _, _, _, _⟩ := nG nK; have Vy : 0 ≤ (tu : Int) := zo; have Vz : tu < (eF.length : Int) := zo; obtain ⟨arO, al9, ama, amb, Gz, GA, GD⟩ := Ec vT.out tu Vy Vz; cases amb; replace Gz := (zx HB Gz :); have BS := zA GD; have BU := zA GA; clear GD GA; replace Vy := eq_true Vy; replace Vz := eq_true Vz; obtain ⟨_, _, _, _, _, _⟩ := nG uF; have VA : 0 ≤ (tu : Int) := zo; have VB : tu < (lX.length : Int) := zo; obtain ⟨arP, amc, amd, ame, GG, GH, GI⟩ := Ec ac8.out tu VA VB; cases ame; replace GG := (zx HB GG :); have BV := zA GI; have BZ := zA GH; clear GI GH; replace VA := eq_true VA; replace VB := eq_true VB; go_wp2_with (first | (go_at_call 31; (with_reducible refine (bz.calls k3 _ _ (bC eF tu) _ _ (bC lX tu) true _ ?aI ?aN ?bS ?bT A34.out).mono ?_); (case aI => exact jB BS HB); (case aN => exact BU.out); (case bS => exact jB BV HB); (case bT => exact BZ.out); rintro e w' ⟨rfl, ⟨nd, rfl⟩⟩; (try first | exact ⟨rfl, _, World.drewN_drewN _ _ _⟩ | exact ⟨rfl, _, Eq.trans (World.drewN_drewN _ _ _) (congrArg (World.drewN _) (Nat.add_assoc _ _ _))⟩))); repeat (go_quiet (first | (go_at_call 31; (with_reducible refine (bz.calls k3 _ _ (bC eF tu) _ _ (bC lX tu) true _ ?aI ?aN ?bS ?bT A34.out).mono ?_); (case aI => exact jB BS HB); (case aN => exact BU.out); (case bS => exact jB BV HB); (case bT => exact BZ.out); rintro e w' ⟨rfl, ⟨nd, rfl⟩⟩; (try first | exact ⟨rfl, _, World.drewN_drewN _ _ _⟩ | exact ⟨rfl, _, Eq.trans (World.drewN_drewN _ _ _) (congrArg (World.drewN _) (Nat.add_assoc _ _ _))⟩))); try go_wp2_with (first | (go_at_call 31; (with_reducible refine (bz.calls k3 _ _ (bC eF tu) _ _ (bC lX tu) true _ ?aI ?aN ?bS ?bT A34.out).mono ?_); (case aI => exact jB BS HB); (case aN => exact BU.out); (case bS => exact jB BV HB); (case bT => exact BZ.out); rintro e w' ⟨rfl, ⟨nd, rfl⟩⟩; (try first | exact ⟨rfl, _, World.drewN_drewN _ _ _⟩ | exact ⟨rfl, _, Eq.trans (World.drewN_drewN _ _ _) (congrArg (World.drewN _) (Nat.add_assoc _ _ _))⟩))))
                   go_roundg k3
                   case measure => have := HJ2.out; have := mo.out; have := wO.out; omega
                   case rel => exact ⟨(wrap64 (tu + 1)), zv, H', ⟨by have := HJ2.out; have := mo.out; have := wO.out; omega⟩, ⟨zK nK⟩, ⟨zK uF⟩, ⟨zB HB⟩⟩
                 · replace Fa := Bool.eq_false_iff.mpr Fa; subst Fa; rw [if_neg (show ¬ (false = true) by decide)] at H; obtain rfl := Option.some.inj H; have abx := p9.out; have aby := qa.out; obtain ⟨_, _, _, _, _, _⟩ := nG nK; have Vy : 0 ≤ (tu : Int) := zo; have Vz : tu < (eF.length : Int) := zo; obtain ⟨arO, al9, ama, amb, Gz, GA, GD⟩ := Ec vT.out tu Vy Vz; cases amb; replace Gz := (zx HB Gz :); have BS := zA GD; have BU := zA GA; clear GD GA; replace Vy := eq_true Vy; replace Vz := eq_true Vz; obtain ⟨_, _, _, _, _, _⟩ := nG uF; have VA : 0 ≤ (tu : Int) := zo; have VB : tu < (lX.length : Int) := zo; obtain ⟨arP, amc, amd, ame, GG, GH, GI⟩ := Ec ac8.out tu VA VB; cases ame; replace GG := (zx HB GG :); have BV := zA GI; have BZ := zA GH; clear GI GH; replace VA := eq_true VA; replace VB := eq_true VB; go_wp2_with (first | (go_at_call 31; (with_reducible refine (bz.calls k3 _ _ (bC eF tu) _ _ (bC lX tu) false _ ?aI ?aN ?bS ?bT A34.out).mono ?_); (case aI => exact jB BS HB); (case aN => exact BU.out); (case bS => exact jB BV HB); (case bT => exact BZ.out); rintro e w' ⟨rfl, ⟨nd, rfl⟩⟩; (try first | exact ⟨rfl, _, World.drewN_drewN _ _ _⟩ | exact ⟨rfl, _, Eq.trans (World.drewN_drewN _ _ _) (congrArg (World.drewN _) (Nat.add_assoc _ _ _))⟩))); repeat (go_quiet (first | (go_at_call 31; (with_reducible refine (bz.calls k3 _ _ (bC eF tu) _ _ (bC lX tu) false _ ?aI ?aN ?bS ?bT A34.out).mono ?_); (case aI => exact jB BS HB); (case aN => exact BU.out); (case bS => exact jB BV HB); (case bT => exact BZ.out); rintro e w' ⟨rfl, ⟨nd, rfl⟩⟩; (try first | exact ⟨rfl, _, World.drewN_drewN _ _ _⟩ | exact ⟨rfl, _, Eq.trans (World.drewN_drewN _ _ _) (congrArg (World.drewN _) (Nat.add_assoc _ _ _))⟩))); try go_wp2_with (first | (go_at_call 31; (with_reducible refine (bz.calls k3 _ _ (bC eF tu) _ _ (bC lX tu) false _ ?aI ?aN ?bS ?bT A34.out).mono ?_); (case aI => exact jB BS HB); (case aN => exact BU.out); (case bS => exact jB BV HB); (case bT => exact BZ.out); rintro e w' ⟨rfl, ⟨nd, rfl⟩⟩; (try first | exact ⟨rfl, _, World.drewN_drewN _ _ _⟩ | exact ⟨rfl, _, Eq.trans (World.drewN_drewN _ _ _) (congrArg (World.drewN _) (Nat.add_assoc _ _ _))⟩))))
                   go_ret; exact ⟨ze, zB HB⟩
               · rw [if_neg Cj] at H; exact absurd H (by simp)
             · rw [if_neg c32] at H; exact absurd H (by simp)
           · rw [if_neg c31] at H; have Nb := decide_eq_false c31; clear c31; obtain rfl := Option.some.inj H; have Rm := p9.out; have Rn := qa.out; obtain ⟨_, _, _, _, _, _⟩ := nG nK; go_wp2; repeat (go_quiet (fail); try go_wp2)
             go_ret; exact ⟨ze, zB HB⟩
end Go.Proofs.YtjmdlmogdbhdhaaDoor.P
namespace Go.Proofs.YtjmdlmogdbhdhaaDoor.P
open Go.RowKit Go.Proofs.YtjmdlmogdbhdhaaDoorW.PrintWords Go.Proofs.YtjmdlmogdbhdhaaDoorW.PrintLast Go.Proofs.YtjmdlmogdbhdhaaDoorW.PrintMore
structure Ca (a : List Int) (b : List aD) (c : List (List aD)) : Prop where
  ha : a.length ≤ 1000000
  hb : b.length ≤ 1000000
  hc : c.length ≤ 1000000
  hd : ∀ d ∈ c, d.length ≤ 1000000
theorem Yd {a : List Int} {b : List aD} {c : List (List aD)} (h : Ca a b c) : ∀ (n i : Nat), n + i = c.length → Ev (fun k => bq.l1 k (i : Int) a b c a b c) true
  | 0, i, hi => by
    refine Ev.succ ?_
    simp only [bq.l1]
    exact Ev.neg (by omega) (Ev.const _)
  | n + 1, i, hi => by
    have hlt : i < c.length := by omega
    have hr : bC c (i : Int) = c[i] := by simp [bC, hlt]
    have ih := Yd h n (i + 1) (by omega)
    have := h.hc
    refine Ev.succ ?_
    simp only [bq.l1, hr, Ck i (by omega)]
    exact Ev.pos (by omega) (Ev.pos (by omega) (Ev.pos (by omega) (Ev.bind (vF _ (h.hd _ (List.getElem_mem hlt))) (Ev.pos rfl ih))))
theorem Ye {a : List Int} {b : List aD} {c : List (List aD)} (h : Ca a b c) : ∀ (n i : Nat), n + i = a.length → Ev (fun k => bq.l0 k (i : Int) a b c a b c) true
  | 0, i, hi => by
    refine Ev.succ ?_
    simp only [bq.l0]
    exact Ev.neg (by omega) (Yd h c.length 0 (by omega))
  | n + 1, i, hi => by
    have ih := Ye h n (i + 1) (by omega)
    have := h.ha
    refine Ev.succ ?_
    simp only [bq.l0, Ck i (by omega)]
    exact Ev.pos (by omega) (Ev.pos (by omega) (Ev.pos (by omega) (Ev.pos trivial ih)))
theorem Yf {a : List Int} {b : List aD} {c : List (List aD)} (h : Ca a b c) : Ev (fun k => bq.f k a b c a b c) true := by
  simp only [bq.f]
  refine Ev.pos trivial (Ev.pos trivial (Ev.bind (vF b h.hb) (Ev.succ ?_)))
  simp only [bq.j0]
  exact Ev.neg (by simp) (Ye h a.length 0 (by omega))
theorem DW : Ca [] [] [] := ⟨by simp, by simp, by simp, by simp⟩
theorem NQ {N : Int} {L : List aD} (hG : jd N L) {s : List Int} (hs : mD N s) (kind : Int) : Ca s (EM N L s kind) (qA N L s kind) := by
  have h1 := hs.len hG.n0 hG.n1
  have h2 := JN hG s kind
  exact ⟨by omega, by unfold EM; rw [List.length_map]; omega, by omega, adl hG hs kind⟩
theorem VC (N : Int) (L : List aD) (s : List Int) (kind : Int) : Ca (Mv N L s kind).1 (Mv N L s kind).2.1 (Mv N L s kind).2.2.1 := by
  unfold Mv
  by_cases hp : vZ N L s kind = 0
  · obtain ⟨hG, hs, hk⟩ := uY hp
    rw [if_pos hp]
    by_cases hh : jk N s kind
    · rw [if_pos hh]; exact DW
    · rw [if_neg hh]; exact NQ hG hs kind
  · rw [if_neg hp]; exact DW
theorem VD (N : Int) (L : List aD) (s : List Int) (kind : Int) : Ca (PL N L s kind).1 (PL N L s kind).2.1 (PL N L s kind).2.2.1 := by
  unfold PL
  by_cases hp : vZ N L s kind = 0
  · obtain ⟨hG, hs, hk⟩ := uY hp
    have hN := hG.n1
    rw [if_pos hp]
    by_cases hr : (pX N s).length ≤ 10
    · rw [if_pos hr]
      obtain ⟨j, _, hj, _, _⟩ := Dm (N := N) (L := L) (s := s) (kind := kind) (by omega) hs
      exact NQ hG (by rw [hj]; exact FZ (by omega) hs j) kind
    · rw [if_neg hr]; exact DW
  · rw [if_neg hp]; exact DW
end Go.Proofs.YtjmdlmogdbhdhaaDoor.P
namespace Go.Proofs.YtjmdlmogdbhdhaaDoor.P
open Go.RowKit Go.Proofs.YtjmdlmogdbhdhaaDoorW.PrintWords Go.Proofs.YtjmdlmogdbhdhaaDoorW.PrintLast Go.Proofs.YtjmdlmogdbhdhaaDoorW.PrintMore
attribute [local go_sem] iI iJ jP jQ gH gI iK iL
set_option linter.unusedVariables false
set_option linter.unusedSimpArgs false
set_option maxHeartbeats 8000000
set_option maxRecDepth 100000
def iD.f (k : Nat)  : Option (Bool) := (some (([(⟨1, 0⟩ : aD)] : List (aD)) : List (aD))).bind fun Dt => ((ji.f k 2 Dt (([0] : List Int)) 1).bind fun mP => (if mP.2.2.2 = 0 then ((bz.f k mP.2.1 (([(⟨0, 1⟩ : aD)] : List (aD)))).bind fun L6 => (if L6 = true then (if (mP.2.2.1.length : Int) = 1 then (if 0 < (mP.2.2.1.length : Int) then (if ((bC mP.2.2.1 0).length : Int) = 2 then ((lQ.f k 2 Dt 1 mP.1 mP.2.1 mP.2.2.1).bind fun Mw => (some (Mw == 0))) else (some false)) else (none)) else (some false)) else (some false))) else (some false)))
theorem iD.calls (k : Nat)  (w : World) (hT : kQ w) (h : iD.f k  = some true) :
 Calls Tryd.prog 10 #[] w fun e w' => e = .returned (.bool true) ∧ Below w.heap.size w w' := by
 have wV := Tryd.underlying42; have uk := Tryd.underlying24; have Mo := Tryd.underlying28; have lM := zA hT; clear hT; have HB := zA (Below.refl w.heap.size w); have H : ((some (([(⟨1, 0⟩ : aD)] : List (aD)) : List (aD))).bind fun Dt => ((ji.f k 2 Dt (([0] : List Int)) 1).bind fun mP => (if mP.2.2.2 = 0 then ((bz.f k mP.2.1 (([(⟨0, 1⟩ : aD)] : List (aD)))).bind fun L6 => (if L6 = true then (if (mP.2.2.1.length : Int) = 1 then (if 0 < (mP.2.2.1.length : Int) then (if ((bC mP.2.2.1 0).length : Int) = 2 then ((lQ.f k 2 Dt 1 mP.1 mP.2.1 mP.2.2.1).bind fun Mw => (some (Mw == 0))) else (some false)) else (none)) else (some false)) else (some false))) else (some false)))) = some true := h; clear h; obtain ⟨Dt, Tk⟩ : ∃ y_ : List (aD), y_ = (([(⟨1, 0⟩ : aD)] : List (aD))) := ⟨_, rfl⟩; replace H : ((ji.f k 2 Dt (([0] : List Int)) 1).bind fun mP => (if mP.2.2.2 = 0 then ((bz.f k mP.2.1 (([(⟨0, 1⟩ : aD)] : List (aD)))).bind fun L6 => (if L6 = true then (if (mP.2.2.1.length : Int) = 1 then (if 0 < (mP.2.2.1.length : Int) then (if ((bC mP.2.2.1 0).length : Int) = 2 then ((lQ.f k 2 Dt 1 mP.1 mP.2.1 mP.2.2.1).bind fun Mw => (some (Mw == 0))) else (some false)) else (none)) else (some false)) else (some false))) else (some false))) = some true := by first | (rw [Tk]; with_reducible exact H) | (have iW := (Option.bind_some _ _).symm.trans H; rw [Tk]; with_reducible exact iW) | (have iW := (Option.bind_some _ _).symm.trans H; with_reducible exact iW) | with_reducible exact H | (rw [Tk]; exact H) | exact H
 have ah9 := zA Tk; clear Tk; obtain ⟨amf, Tm⟩ : ∃ y_ : List Int, y_ = (([0] : List Int)) := ⟨_, rfl⟩; replace H : ((ji.f k 2 Dt amf 1).bind fun mP => (if mP.2.2.2 = 0 then ((bz.f k mP.2.1 (([(⟨0, 1⟩ : aD)] : List (aD)))).bind fun L6 => (if L6 = true then (if (mP.2.2.1.length : Int) = 1 then (if 0 < (mP.2.2.1.length : Int) then (if ((bC mP.2.2.1 0).length : Int) = 2 then ((lQ.f k 2 Dt 1 mP.1 mP.2.1 mP.2.2.1).bind fun Mw => (some (Mw == 0))) else (some false)) else (none)) else (some false)) else (some false))) else (some false))) = some true := by first | (rw [Tm]; with_reducible exact H) | (have iW := (Option.bind_some _ _).symm.trans H; rw [Tm]; with_reducible exact iW) | (have iW := (Option.bind_some _ _).symm.trans H; with_reducible exact iW) | with_reducible exact H | (rw [Tm]; exact H) | exact H
 have aia := zA Tm; clear Tm; replace H := Option.bind_eq_some_iff.mp H; obtain ⟨⟨Iu, GJ, uH, Zy⟩, A10, H⟩ := H; (try dsimp only at H); have A1 := zA A10; clear A10; by_cases c2 : Zy = 0
 · rw [if_pos c2] at H; have Mg : (Zy == 0) = true := beq_iff_eq.mpr c2; have aej : (Zy != 0) = false := bne_eq_false_iff_eq.mpr c2; clear c2; obtain ⟨arQ, Tn⟩ : ∃ y_ : List (aD), y_ = (([(⟨0, 1⟩ : aD)] : List (aD))) := ⟨_, rfl⟩; replace H : ((bz.f k GJ arQ).bind fun L6 => (if L6 = true then (if (uH.length : Int) = 1 then (if 0 < (uH.length : Int) then (if ((bC uH 0).length : Int) = 2 then ((lQ.f k 2 Dt 1 Iu GJ uH).bind fun Mw => (some (Mw == 0))) else (some false)) else (none)) else (some false)) else (some false))) = some true := by first | (rw [Tn]; with_reducible exact H) | (have iW := (Option.bind_some _ _).symm.trans H; rw [Tn]; with_reducible exact iW) | (have iW := (Option.bind_some _ _).symm.trans H; with_reducible exact iW) | with_reducible exact H | (rw [Tn]; exact H) | exact H
   have aib := zA Tn; clear Tn; replace H := zE H; obtain ⟨L6, A3, H⟩ := H; (try dsimp only at H); by_cases c4 : L6 = true
   · subst c4; rw [if_pos rfl] at H; by_cases c5 : (uH.length : Int) = 1
     · rw [if_pos c5] at H; have pM : ((uH.length : Int) == 1) = true := beq_iff_eq.mpr c5; have yh : ((uH.length : Int) != 1) = false := bne_eq_false_iff_eq.mpr c5; clear c5; by_cases c6 : 0 < (uH.length : Int)
       · rw [if_pos c6] at H; have yH := decide_eq_true c6; have YY : decide (0 < uH.length) = true := decide_eq_true (by omega); clear c6; by_cases c7 : ((bC uH 0).length : Int) = 2
         · rw [if_pos c7] at H; have Am : (((bC uH 0).length : Int) == 2) = true := beq_iff_eq.mpr c7; have OJ : (((bC uH 0).length : Int) != 2) = false := bne_eq_false_iff_eq.mpr c7; clear c7; replace H := zE H; obtain ⟨Mw, A8, H⟩ := H; (try dsimp only at H); obtain rfl := eq_of_beq (Option.some.inj H); go_enter Tryd.func10, Tryd.ntmps10; go_wp2_with (first | ((with_reducible refine aH (N := 5) rfl ?_); (try (refine iV (by rfl) ?_; dsimp only)); refine Kd.IP gm _ 42 ?hg (N := 5) ?hd (xs := ([(⟨1, 0⟩ : aD)] : List (aD))) (inner := [.int .i64 1, .int .i64 0]) (ok := fun _ => True) (tX := fun _ => True) ?hr ?hp (fun _ hk => hk) trivial (Below.refl _ _) (Nat.le_refl _) (by simp) ?_; (case hd => rfl); (case hg => rfl); (case hr => first | (go_simp; done) | (go_simp; rfl)); (case hp => exact (gP.c2 (show Kd.M gm _ _ _ (⟨1, 0⟩ : aD) [.int .i64 1, .int .i64 0] from (mR _ _ _ (⟨1, 0⟩ : aD) )) (gP.none _ _))); intro aDw w9 yl hb Ac lS; clear Ac lS; (first | rw [← ah9.out] at yl | (simp only [Int.reduceToNat] at yl; rw [← ah9.out] at yl)); have tV := zA (Kd.dw yl (aJ (zB HB))); replace HB := zA (af (zB HB) hb); clear hb yl; obtain ⟨YF, YG, awV⟩ := Kd.bD tV.out; subst awV) | ((with_reducible refine aH (N := 1) rfl ?_); (try (refine iV (by rfl) ?_; dsimp only)); refine zX (N := 1) (cs := #[.int .i64 0, .slice none 0 0]) (t := 24) ?_; intro Yg hg Tz aG hb; have yF := zA (aG); have aAQ := zA (zW hg HB); have aAR := zA (zW hg HB); replace tV := zA (Kd.bf (zR tV) hb); replace HB := zA (af (zB HB) hb); clear hb aG hg; obtain ⟨_, _, _, _⟩ := iG yF) | ((with_reducible refine aH (N := 9) rfl ?_); (try (refine iV (by rfl) ?_; dsimp only)); refine Kd.IP (Kd.int .i64) _ 3 ?hg (N := 9) ?hd (xs := ([0] : List Int)) (inner := [.int .i64 0]) (ok := fun _ => True) (tX := fun _ => True) ?hr ?hp (fun _ hk => hk) trivial (Below.refl _ _) (Nat.le_refl _) (by simp) ?_; (case hd => rfl); (case hg => rfl); (case hr => first | (go_simp; done) | (go_simp; rfl)); (case hp => exact (gP.one (show Kd.M (Kd.int .i64) _ _ _ 0 [.int .i64 0] from rfl) (gP.none _ _))); intro aDx JF adn hb Ac lS; clear Ac lS; (first | rw [← aia.out] at adn | (simp only [Int.reduceToNat] at adn; rw [← aia.out] at adn)); have Cq := zA (Kd.dw adn (aJ (zB HB))); replace tV := zA (Kd.bf (by refine jF ?_; exact (Kd.aQ (Kd.aT (p := ⟨Yg, 1, none⟩) (Kd.aT (p := ⟨Yg, 0, none⟩) (Kd.bJ tV.out yF.out (by decide)) (fun _ hk => hk.2) (.int .i64 2)) (fun _ hk => hk.2) (.slice YF Dt.length YG)) (fun _ h_ => h_.1))) hb); replace yF := zA (fo (g := Yg) (o := .cells #[.int .i64 2, .slice YF Dt.length YG] 24 (0, 0)) (by refine zk ?_; refine aV (cs := #[.int .i64 2, .slice none 0 0]) ?_ 1 _ rfl; refine zk ?_; refine aV (cs := #[.int .i64 0, .slice none 0 0]) ?_ 0 _ rfl; refine zk ?_; exact yF.out) hb); replace HB := zA (af (zB HB) hb); clear hb adn; obtain ⟨xe, qm, alv⟩ := Kd.bD Cq.out; subst alv) | ((with_reducible refine ay (f := 24) rfl ?_); refine zG (some 10) rfl Tryd.func24 #[.agg #[.int .i64 2, .slice YF Dt.length YG], .slice xe amf.length qm, .int .i64 1] ?_; (with_reducible refine (ji.calls k 2 _ _ Dt _ _ amf 1 Iu GJ uH Zy _ ?aI ?aN ?bS ?bT ?jh A1.out).mono ?_); (case aI => repeat (first | exact (Kd.aU tV.out).2.2 | (with_reducible refine Kd.dY ?_ _) | (with_reducible refine Kd.dZ ?_ _) | (with_reducible refine Kd.fB ?_))); (case aN => exact (Kd.aU tV.out).2.1); (case bS => repeat (first | exact (Kd.aU Cq.out).2.2 | (with_reducible refine Kd.dY ?_ _) | (with_reducible refine Kd.dZ ?_ _) | (with_reducible refine Kd.fB ?_))); (case bT => exact (Kd.aU Cq.out).2.1); (case jh => exact kQ.now lM.out (zB HB)); rintro e w17 ⟨aDy, aDz, aDA, rfl, ho0, ho1, ho2, hb⟩; refine ⟨_, rfl, ?_⟩; have GK := zA (Kd.dw (Kd.gz ho0 (Kd.kP (zR Cq))) (aJ (zB HB))); have Cr := zA (Kd.dw (Kd.gz ho1 (Kd.kP (zR tV))) (aJ (zB HB))); have Cs := zA (Kd.pI (Kd.Bj ho2 (Kd.kP (zR tV))) (aJ (zB HB))); replace tV := zA (Kd.dQ (zR tV) (Kd.fe ho1) hb); replace Cq := zA (Kd.dQ (zR Cq) (Kd.fe ho0) hb); replace yF := zA (dn yF hb); replace HB := zA (af (zB HB) hb)) | ((with_reducible refine aH (N := 2) rfl ?_); (try (refine iV (by rfl) ?_; dsimp only)); refine zX (N := 2) (cs := #[.slice none 0 0, .slice none 0 0, .slice none 0 0]) (t := 28) ?_; intro rW hg w18 aG hb; have Bd := zA (aG); have aAS := zA (zW hg HB); have aAT := zA (zW hg HB); have DX := zA (lZ hg yF); have Zz := zA (l5 hg yF); replace tV := zA (Kd.bf (zR tV) hb); replace Cq := zA (Kd.bf (zR Cq) hb); replace GK := zA (Kd.bf (zR GK) hb); replace Cr := zA (Kd.bf (zR Cr) hb); replace Cs := zA (Kd.iY (zS Cs) hb); replace yF := zA (dn yF hb); replace HB := zA (af (zB HB) hb); clear hb aG hg; obtain ⟨Mx, MB, awW⟩ := Kd.bD GK.out; subst awW; have agl := Zz.out; have agm := DX.out; obtain ⟨_, _, _, _, _, _⟩ := nG Bd; obtain ⟨PM, PN, awX⟩ := Kd.bD Cr.out; subst awX; obtain ⟨PE, PG, alT⟩ := Kd.kX Cs.out; subst alT) | ((with_reducible refine aH (N := 19) rfl ?_); (try (refine iV (by rfl) ?_; dsimp only)); refine Kd.IP gm _ 42 ?hg (N := 19) ?hd (xs := ([(⟨0, 1⟩ : aD)] : List (aD))) (inner := [.int .i64 0, .int .i64 1]) (ok := fun _ => True) (tX := fun _ => True) ?hr ?hp (fun _ hk => hk) trivial (Below.refl _ _) (Nat.le_refl _) (by simp) ?_; (case hd => rfl); (case hg => rfl); (case hr => first | (go_simp; done) | (go_simp; rfl)); (case hp => exact (gP.c2 (show Kd.M gm _ _ _ (⟨0, 1⟩ : aD) [.int .i64 0, .int .i64 1] from (mR _ _ _ (⟨0, 1⟩ : aD) )) (gP.none _ _))); intro aDB w24 Tp hb Ac lS; clear Ac lS; (first | rw [← aib.out] at Tp | (simp only [Int.reduceToNat] at Tp; rw [← aib.out] at Tp)); have Tq := zA (Kd.dw (Kd.gz (Kd.gz Tp (Kd.kP (by refine jF ?_; exact (Kd.aQ (Kd.aT (p := ⟨rW, 2, none⟩) (Kd.aT (p := ⟨rW, 1, none⟩) (Kd.aT (p := ⟨rW, 0, none⟩) (Kd.bJ tV.out Bd.out (by decide)) (fun _ hk => hk.2) (.slice Mx Iu.length MB)) (fun _ hk => hk.2) (.slice PM GJ.length PN)) (fun _ hk => hk.2) (.slice PE uH.length PG)) (fun _ h_ => h_.1))))) (Kd.kP (by refine jF ?_; exact (Kd.aQ (Kd.aT (p := ⟨rW, 2, none⟩) (Kd.aT (p := ⟨rW, 1, none⟩) (Kd.aT (p := ⟨rW, 0, none⟩) (Kd.bJ Cr.out Bd.out (by decide)) (fun _ hk => hk.2) (.slice Mx Iu.length MB)) (fun _ hk => hk.2) (.slice PM GJ.length PN)) (fun _ hk => hk.2) (.slice PE uH.length PG)) (fun _ h_ => h_.1))))) (aJ (zB HB))); replace tV := zA (Kd.dQ (by refine jF ?_; exact (Kd.aQ (Kd.aT (p := ⟨rW, 2, none⟩) (Kd.aT (p := ⟨rW, 1, none⟩) (Kd.aT (p := ⟨rW, 0, none⟩) (Kd.bJ tV.out Bd.out (by decide)) (fun _ hk => hk.2) (.slice Mx Iu.length MB)) (fun _ hk => hk.2) (.slice PM GJ.length PN)) (fun _ hk => hk.2) (.slice PE uH.length PG)) (fun _ h_ => h_.1))) (Kd.fe Tp) hb); replace Cq := zA (Kd.bf (by refine jF ?_; exact (Kd.aQ (Kd.aT (p := ⟨rW, 2, none⟩) (Kd.aT (p := ⟨rW, 1, none⟩) (Kd.aT (p := ⟨rW, 0, none⟩) (Kd.bJ Cq.out Bd.out (by decide)) (fun _ hk => hk.2) (.slice Mx Iu.length MB)) (fun _ hk => hk.2) (.slice PM GJ.length PN)) (fun _ hk => hk.2) (.slice PE uH.length PG)) (fun _ h_ => h_.1))) hb); replace GK := zA (Kd.bf (by refine jF ?_; exact (Kd.aQ (Kd.aT (p := ⟨rW, 2, none⟩) (Kd.aT (p := ⟨rW, 1, none⟩) (Kd.aT (p := ⟨rW, 0, none⟩) (Kd.bJ GK.out Bd.out (by decide)) (fun _ hk => hk.2) (.slice Mx Iu.length MB)) (fun _ hk => hk.2) (.slice PM GJ.length PN)) (fun _ hk => hk.2) (.slice PE uH.length PG)) (fun _ h_ => h_.1))) hb); replace Cr := zA (Kd.dQ (by refine jF ?_; exact (Kd.aQ (Kd.aT (p := ⟨rW, 2, none⟩) (Kd.aT (p := ⟨rW, 1, none⟩) (Kd.aT (p := ⟨rW, 0, none⟩) (Kd.bJ Cr.out Bd.out (by decide)) (fun _ hk => hk.2) (.slice Mx Iu.length MB)) (fun _ hk => hk.2) (.slice PM GJ.length PN)) (fun _ hk => hk.2) (.slice PE uH.length PG)) (fun _ h_ => h_.1))) (Kd.fe Tp) hb); replace Cs := zA (Kd.yf (by refine sM ?_; exact (Kd.dF (Kd.eB (p := ⟨rW, 2, none⟩) (Kd.eB (p := ⟨rW, 1, none⟩) (Kd.eB (p := ⟨rW, 0, none⟩) (Kd.jY Cs.out Bd.out (by decide)) (fun _ hk => hk.2) (.slice Mx Iu.length MB)) (fun _ hk => hk.2) (.slice PM GJ.length PN)) (fun _ hk => hk.2) (.slice PE uH.length PG)) (fun _ h_ => h_.1))) (Kd.fe Tp) hb); replace yF := zA (fo (g := Yg) (o := .cells #[.int .i64 2, .slice YF Dt.length YG] 24 (0, 0)) (by refine iA DX.out ?_; refine iA DX.out ?_; refine iA DX.out ?_; refine zk ?_; exact yF.out) hb); replace Bd := zA (fo (g := rW) (o := .cells #[.slice Mx Iu.length MB, .slice PM GJ.length PN, .slice PE uH.length PG] 28 (0, 0)) (by refine zk ?_; refine aV (cs := #[.slice Mx Iu.length MB, .slice PM GJ.length PN, .slice none 0 0]) ?_ 2 _ rfl; refine zk ?_; refine aV (cs := #[.slice Mx Iu.length MB, .slice none 0 0, .slice none 0 0]) ?_ 1 _ rfl; refine zk ?_; refine aV (cs := #[.slice none 0 0, .slice none 0 0, .slice none 0 0]) ?_ 0 _ rfl; refine zk ?_; exact Bd.out) hb); replace HB := zA (af (zB HB) hb); clear hb Tp; obtain ⟨FC, FD, akt⟩ := Kd.bD Tq.out; subst akt) | (go_at_call 31; (with_reducible refine (bz.calls k _ _ GJ _ _ arQ true _ ?aI ?aN ?bS ?bT A3.out).mono ?_); (case aI => repeat (first | exact (Kd.aU Cr.out).2.2 | (with_reducible refine Kd.dY ?_ _) | (with_reducible refine Kd.dZ ?_ _) | (with_reducible refine Kd.fB ?_))); (case aN => exact (Kd.aU Cr.out).2.1); (case bS => repeat (first | exact (Kd.aU Tq.out).2.2 | (with_reducible refine Kd.dY ?_ _) | (with_reducible refine Kd.dZ ?_ _) | (with_reducible refine Kd.fB ?_))); (case bT => exact (Kd.aU Tq.out).2.1); rintro e w' ⟨rfl, ⟨nd, rfl⟩⟩; obtain ⟨_, _, _, _, _, _⟩ := nG Bd; have afL : 0 ≤ (0 : Int) := (by omega); have afM : 0 < (uH.length : Int) := zo; obtain ⟨aAU, awY, awZ, e314, PO, Yh, Yi⟩ := Ec (Kd.jO Cs.out).2.2 0 afL afM; cases e314; obtain ⟨aAV, amg, amh, ado⟩ := Kd.ZX Cs.out [] 0 afL (by first | exact afM | exact zo | (have e_ := (Kd.jO Cs.out).1; omega)); obtain ⟨atf, rfl, PR⟩ := amh; have GM := ado 0 _ rfl; rw [Nat.add_zero, show ((Kd.slice 42 gm)).sz = 1 from rfl, Nat.mul_one] at GM; replace GM := Option.some.inj (GM.symm.trans PO); rw [GM] at PR; have Yj := zA (show Kd.R gm 42 _ _ _ _ (bC uH 0) from PR); clear GM PR; clear ado amg; have aAW : (0 < uH.length) = True := eq_true (by omega); (try rw [show ((0 : Int)).toNat = 0 from rfl] at PO); (try rw [Addr.add_zero'] at PO); have Yk := zA Yi; have atg := zA Yh; clear Yi Yh; replace afL := eq_true afL; replace afM := eq_true afM; obtain ⟨_, _, _, _⟩ := iG yF) | (go_at_call 17; (with_reducible refine (lQ.calls k 2 _ _ Dt 1 _ _ Iu _ _ GJ _ _ uH 0 _ ?aI ?aN ?bS ?bT ?jh ?FR ?FT ?FU ?FV A8.out).mono ?_); (case aI => repeat (first | exact (Kd.aU tV.out).2.2 | (with_reducible refine Kd.dY ?_ _) | (with_reducible refine Kd.dZ ?_ _) | (with_reducible refine Kd.fB ?_))); (case aN => exact (Kd.aU tV.out).2.1); (case bS => repeat (first | exact (Kd.aU GK.out).2.2 | (with_reducible refine Kd.dY ?_ _) | (with_reducible refine Kd.dZ ?_ _) | (with_reducible refine Kd.fB ?_))); (case bT => exact (Kd.aU GK.out).2.1); (case jh => repeat (first | exact (Kd.aU Cr.out).2.2 | (with_reducible refine Kd.dY ?_ _) | (with_reducible refine Kd.dZ ?_ _) | (with_reducible refine Kd.fB ?_))); (case FR => exact (Kd.aU Cr.out).2.1); (case FT => repeat (first | exact (Kd.jO Cs.out).2.2 | (with_reducible refine Kd.dY ?_ _) | (with_reducible refine Kd.dZ ?_ _) | (with_reducible refine Kd.fB ?_))); (case FU => exact (Kd.jO Cs.out).2.1); (case FV => exact kQ.now lM.out (zB HB)); rintro e w29 ⟨rfl, hb⟩; replace tV := zA (Kd.bf (zR tV) hb); replace Cq := zA (Kd.bf (zR Cq) hb); replace GK := zA (Kd.bf (zR GK) hb); replace Cr := zA (Kd.bf (zR Cr) hb); replace Cs := zA (Kd.iY (zS Cs) hb); replace Tq := zA (Kd.bf (zR Tq) hb); replace Yj := zA (Kd.bf (zR Yj) hb); replace yF := zA (dn yF hb); replace Bd := zA (dn Bd hb); replace Yk := zA (Kd.bu (zC Yk) hb); replace HB := zA (af (zB HB) hb))); go_ret; exact ⟨ze, zB HB⟩
         · rw [if_neg c7] at H; have Am : (((bC uH 0).length : Int) == 2) = false := beq_eq_false_iff_ne.mpr c7; have OJ : (((bC uH 0).length : Int) != 2) = true := bne_iff_ne.mpr c7; first | (refine absurd H ?_; simp; done) | (refine absurd H ?_; simp_all; done)
       · rw [if_neg c6] at H; exact absurd H (by simp)
     · rw [if_neg c5] at H; have pM : ((uH.length : Int) == 1) = false := beq_eq_false_iff_ne.mpr c5; have yh : ((uH.length : Int) != 1) = true := bne_iff_ne.mpr c5; first | (refine absurd H ?_; simp; done) | (refine absurd H ?_; simp_all; done)
   · replace c4 := Bool.eq_false_iff.mpr c4; subst c4; rw [if_neg (show ¬ (false = true) by decide)] at H; first | (refine absurd H ?_; simp; done) | (refine absurd H ?_; simp_all; done)
 · rw [if_neg c2] at H; have Mg : (Zy == 0) = false := beq_eq_false_iff_ne.mpr c2; have aej : (Zy != 0) = true := bne_iff_ne.mpr c2; first | (refine absurd H ?_; simp; done) | (refine absurd H ?_; simp_all; done)
end Go.Proofs.YtjmdlmogdbhdhaaDoor.P
namespace Go.Proofs.YtjmdlmogdbhdhaaDoor.P
open Go.RowKit Go.Proofs.YtjmdlmogdbhdhaaDoorW.PrintWords Go.Proofs.YtjmdlmogdbhdhaaDoorW.PrintLast Go.Proofs.YtjmdlmogdbhdhaaDoorW.PrintMore
theorem NR : qA 2 [⟨1, 0⟩] [0] 1 = [[⟨0, 1⟩, ⟨1, 0⟩]] := by decide +kernel
theorem NS : EM 2 [⟨1, 0⟩] [0] 1 = [⟨0, 1⟩] := by decide +kernel
theorem GQ : Ev (fun k => iD.f k) true := by
  have hG : jd 2 [⟨1, 0⟩] := ⟨by omega, by omega, fun p hp => by obtain rfl := List.mem_singleton.1 hp; exact ⟨by decide, by decide, by decide, by decide⟩, by simp⟩
  have hs : mD 2 [0] := ⟨fun x hx => by obtain rfl := List.mem_singleton.1 hx; omega, by simp⟩
  have hh : ¬ jk 2 [0] 1 := fun h => by cases h.1
  have h1 := Nv hG hs (kind := 1) (.inl rfl)
  rw [if_neg hh] at h1
  have h2 := ab6 hG hs (kind := 1) (.inl rfl) hh
  rw [NS, NR] at h2
  rw [show (qA 2 [⟨1, 0⟩] [0] 1).map (KZ [0]) = [⟨0, 1⟩] from NS, NR] at h1
  simp only [iD.f, Option.bind_some]
  exact Ev.bind h1 (Ev.pos rfl (Ev.bind (vF _ (by simp)) (Ev.pos rfl (Ev.pos rfl (Ev.pos (by decide) (Ev.pos rfl (Ev.bind h2 (Ev.const _))))))))
end Go.Proofs.YtjmdlmogdbhdhaaDoor.P
namespace Go.Proofs.YtjmdlmogdbhdhaaDoor.P
open Go.RowKit Go.Proofs.YtjmdlmogdbhdhaaDoorW.PrintWords Go.Proofs.YtjmdlmogdbhdhaaDoorW.PrintLast Go.Proofs.YtjmdlmogdbhdhaaDoorW.PrintMore
attribute [local go_sem] iI iJ jP jQ gH gI iK iL
set_option linter.unusedVariables false
set_option linter.unusedSimpArgs false
set_option maxHeartbeats 8000000
set_option maxRecDepth 100000
def dL.l0 : Nat → Int → List Int → Int → List Int → Int → Option (List Int × Int)
 | 0, _, _, _, _, _ => none
 | k + 1, x1, x5, x6, x1000, Ci => if x6 < x1 then ((bP.f x1000 Ci 3).bind fun adp => (if adp.1 = 0 then (if x5.length < 17592186044416 then (dL.l0 k x1 (x5 ++ [x6]) (wrap64 (x6 + 1)) x1000 adp.2) else (none)) else (dL.l0 k x1 x5 (wrap64 (x6 + 1)) x1000 adp.2))) else (some (x5, Ci))
def dL.f (k : Nat) (iE : List Int) (l6 : Int) (a1 : Int) : Option (List Int × Int) := dL.l0 k a1 ([] : List Int) 0 iE l6
theorem dL.calls (k : Nat) (g : Nat) (iE : List Int) (l6 : Int) (a1 : Int) (r1 : List Int) (r2 : Int) (w0 w : World) (hI : aA w0 w g iE l6) (hB : Below w0.heap.size w0 w) (h : dL.f k iE l6 a1 = some (r1, r2)) :
 Calls Tryd.prog 15 #[.pointer (some ⟨g, 0, none⟩), .int .i64 a1] w fun e w' => ∃ Db : Value, e = .returned (Db) ∧ Kd.R (Kd.int .i64) 3 w' w.heap.size (fun _ => True) Db r1 ∧ aA w0 w' g iE r2 ∧ Below w0.heap.size w0 w' ∧ aY w w' g none := by
 have HI0 := zA hI; have HK := zA (aY.refl w g none); have HL := zA hB.size; clear hI; have HW0 := zA hB.size; have HB := zA hB; clear hB; have H : (dL.l0 k a1 ([] : List Int) 0 iE l6) = some (r1, r2) := h; clear h; have H' := zA H; clear H; go_enter Tryd.func15, Tryd.ntmps15; go_wp2; go_loopg [5, 6] k (fun kq v5 v6 w' => ∃ (bL : List Int) (kY : Int) (oI : Int), v6 = .int .i64 kY ∧ ag (dL.l0 kq a1 bL kY iE oI = some (r1, r2)) ∧ ag (kq ≤ k) ∧ ag (Kd.R (Kd.int .i64) 3 w' w.heap.size (fun _ => True) v5 bL) ∧ ag (aA w0 w' g iE oI) ∧ ag (aY w w' g none) ∧ ag (Below w0.heap.size w0 w'))
 case atStart => exact ⟨(([] : List Int)), (0), (l6), zv, H', ⟨Nat.le_refl _⟩, ⟨Ab⟩, ⟨by repeat (first | (with_reducible first | exact HI0.out | apply aA.alloc | apply aA.drewN | apply aA.drew | apply aA.jL) | exact HI0.out)⟩, ⟨by repeat (first | (with_reducible first | exact HK.out | apply aY.nW | apply cZ | apply dN | apply dh) | exact HK.out)⟩, ⟨by repeat (first | (with_reducible first | exact HB.out | apply bB | apply bH | apply bn | refine bG ?_ (aA.ge HI0.out)) | exact HB.out)⟩⟩
 case round =>
  clear H'
  obtain ⟨bL, kY, oI, rfl, HA, iU, Ak, HI0, HK, HB⟩ := hrel; cases gk with
  | zero => exact absurd HA.out (by simp [dL.l0])
  | succ k1 =>
   have H := HA.out; clear HA; simp only [dL.l0] at H; by_cases c3 : kY < a1
   · rw [if_pos c3] at H; have zF := decide_eq_true c3; clear c3; replace H := Option.bind_eq_some_iff.mp H; obtain ⟨⟨VE, adq⟩, YV, H⟩ := H; (try dsimp only at H); have A4 := zA YV; clear YV; by_cases c5 : VE = 0
     · rw [if_pos c5] at H; have pM : (VE == 0) = true := beq_iff_eq.mpr c5; have yh : (VE != 0) = false := bne_eq_false_iff_eq.mpr c5; clear c5; by_cases c6 : bL.length < 17592186044416
       · rw [if_pos c6] at H; have aw0 := zA c6; clear c6; obtain ⟨arR, Tt⟩ : ∃ y_ : List Int, y_ = (bL ++ [kY]) := ⟨_, rfl⟩; replace H : (dL.l0 k1 a1 arR (wrap64 (kY + 1)) iE adq) = some (r1, r2) := by first | (rw [Tt]; with_reducible exact H) | (have iW := (Option.bind_some _ _).symm.trans H; rw [Tt]; with_reducible exact iW) | (have iW := (Option.bind_some _ _).symm.trans H; with_reducible exact iW) | with_reducible exact H | (rw [Tt]; exact H) | exact H
         have arS := zA Tt; clear Tt; have H' := zA H; clear H; go_wp2_with (first | ((with_reducible refine ay (f := 16) rfl ?_); refine zG (some 13) rfl Tryd.func16 #[.pointer (some ⟨g, 0, none⟩), .int .i64 3] ?_; (with_reducible refine (bP.calls g iE oI 3 VE adq w0 _ ?aI ?aN A4.out).mono ?_); (case aI => repeat (first | (with_reducible first | exact HI0.out | apply aA.alloc | apply aA.drewN | apply aA.drew | apply aA.jL) | exact HI0.out)); (case aN => repeat (first | (with_reducible first | exact HB.out | apply bB | apply bH | apply bn | refine bG ?_ (aA.ge HI0.out)) | exact HB.out)); rintro e w7 ⟨rfl, hi, hb, hk⟩; refine ⟨_, rfl, ?_⟩; replace Ak := zA (Kd.aQ (Kd.Bg (aA.apart (show aA w0 _ g iE oI from by repeat (first | (with_reducible first | exact HI0.out | apply aA.alloc | apply aA.drewN | apply aA.drew | apply aA.jL) | exact HI0.out)) (zR Ak) (by decide)) hk (fun _ h => h.2)) (fun _ h => h.1)); replace HK := zA (aY.trans (by repeat (first | (with_reducible first | exact HK.out | apply aY.nW | apply cZ | apply dN | apply dh) | exact HK.out)) hk (.inl rfl)); replace HB := zA (hb); replace HI0 := zA (hi)) | ((with_reducible refine fZ (b := .append) (xs := #[.tmp 15, .tmp 17]) rfl ?_); at_builtin; refine Kd.oz (Kd.int .i64) w.heap.size rfl (.tmp 15) (.tmp 17) 25 3 (.int .i64 0) 8 rfl Tryd.underlying25 info3 rfl (by decide) (by omega) u5 bL kY [.int .i64 kY] (fun _ => True) (fun _ => False) rfl rfl ?aP (fun _ hk => hk.elim) ?aF ?aO (Below.refl _ _) ?aS ?aL ?_; (case aP => exact rfl); (case aF => exact (fun _ _ => trivial)); (case aO => exact (zR Ak)); (case aS => exact (tC (w := w) (g := g) (row := none) (by repeat (first | (with_reducible first | exact HK.out | apply aY.nW | apply cZ | apply dN | apply dh) | exact HK.out)))); (case aL => have := aw0.out; omega); intro aDC w8 ho hb hg hat; rw [← arS.out] at ho; have arT := zA (ho); replace HB := zA (wR (by repeat (first | (with_reducible first | exact HB.out | apply bB | apply bH | apply bn | refine bG ?_ (aA.ge HI0.out)) | exact HB.out)) HL.out hb); replace HI0 := zA (aA.grown (by repeat (first | (with_reducible first | exact HI0.out | apply aA.alloc | apply aA.drewN | apply aA.drew | apply aA.jL) | exact HI0.out)) hg (aA.own_ne HI0.out Ak.out (by decide))); replace HK := zA (aY.trans (by repeat (first | (with_reducible first | exact HK.out | apply aY.nW | apply cZ | apply dN | apply dh) | exact HK.out)) (aY.zU hg g) (Kd.Jw Ak.out)); clear Ak; clear ho hb hg hat)); go_roundg k1
         case measure => have := iU.out; omega
         case rel => exact ⟨(arR), (wrap64 (kY + 1)), (adq), zv, H', ⟨by have := iU.out; omega⟩, ⟨zR arT⟩, ⟨by repeat (first | (with_reducible first | exact HI0.out | apply aA.alloc | apply aA.drewN | apply aA.drew | apply aA.jL) | exact HI0.out)⟩, ⟨by repeat (first | (with_reducible first | exact HK.out | apply aY.nW | apply cZ | apply dN | apply dh) | exact HK.out)⟩, ⟨by repeat (first | (with_reducible first | exact HB.out | apply bB | apply bH | apply bn | refine bG ?_ (aA.ge HI0.out)) | exact HB.out)⟩⟩
       · rw [if_neg c6] at H; exact absurd H (by simp)
     · rw [if_neg c5] at H; have pM : (VE == 0) = false := beq_eq_false_iff_ne.mpr c5; have yh : (VE != 0) = true := bne_iff_ne.mpr c5; have H' := zA H; clear H; go_wp2_with (first | ((with_reducible refine ay (f := 16) rfl ?_); refine zG (some 13) rfl Tryd.func16 #[.pointer (some ⟨g, 0, none⟩), .int .i64 3] ?_; (with_reducible refine (bP.calls g iE oI 3 VE adq w0 _ ?aI ?aN A4.out).mono ?_); (case aI => repeat (first | (with_reducible first | exact HI0.out | apply aA.alloc | apply aA.drewN | apply aA.drew | apply aA.jL) | exact HI0.out)); (case aN => repeat (first | (with_reducible first | exact HB.out | apply bB | apply bH | apply bn | refine bG ?_ (aA.ge HI0.out)) | exact HB.out)); rintro e w9 ⟨rfl, hi, hb, hk⟩; refine ⟨_, rfl, ?_⟩; replace Ak := zA (Kd.aQ (Kd.Bg (aA.apart (show aA w0 _ g iE oI from by repeat (first | (with_reducible first | exact HI0.out | apply aA.alloc | apply aA.drewN | apply aA.drew | apply aA.jL) | exact HI0.out)) (zR Ak) (by decide)) hk (fun _ h => h.2)) (fun _ h => h.1)); replace HK := zA (aY.trans (by repeat (first | (with_reducible first | exact HK.out | apply aY.nW | apply cZ | apply dN | apply dh) | exact HK.out)) hk (.inl rfl)); replace HB := zA (hb); replace HI0 := zA (hi))); go_roundg k1
       case measure => have := iU.out; omega
       case rel => exact ⟨(bL), (wrap64 (kY + 1)), (adq), zv, H', ⟨by have := iU.out; omega⟩, ⟨zR Ak⟩, ⟨by repeat (first | (with_reducible first | exact HI0.out | apply aA.alloc | apply aA.drewN | apply aA.drew | apply aA.jL) | exact HI0.out)⟩, ⟨by repeat (first | (with_reducible first | exact HK.out | apply aY.nW | apply cZ | apply dN | apply dh) | exact HK.out)⟩, ⟨by repeat (first | (with_reducible first | exact HB.out | apply bB | apply bH | apply bn | refine bG ?_ (aA.ge HI0.out)) | exact HB.out)⟩⟩
   · rw [if_neg c3] at H; have zF := decide_eq_false c3; clear c3; simp only [Option.some.injEq, Prod.mk.injEq] at H; obtain ⟨rfl, rfl⟩ := H; go_wp2; go_ret; exact ⟨_, ze, by refine jF ?_; exact Ak.out, by repeat (first | (with_reducible first | exact HI0.out | apply aA.alloc | apply aA.drewN | apply aA.drew | apply aA.jL) | exact HI0.out), by repeat (first | (with_reducible first | exact HB.out | apply bB | apply bH | apply bn | refine bG ?_ (aA.ge HI0.out)) | exact HB.out), by repeat (first | (with_reducible first | exact HK.out | apply aY.nW | apply cZ | apply dN | apply dh) | exact HK.out)⟩
end Go.Proofs.YtjmdlmogdbhdhaaDoor.P
namespace Go.Proofs.YtjmdlmogdbhdhaaDoor.P
open Go.RowKit Go.Proofs.YtjmdlmogdbhdhaaDoorW.PrintWords Go.Proofs.YtjmdlmogdbhdhaaDoorW.PrintLast Go.Proofs.YtjmdlmogdbhdhaaDoorW.PrintMore
theorem PS {l : List Int} {N : Int} (hN : N ≤ 1000) : ∀ (n i : Nat), ((n + i : Nat) : Int) = N → ∀ (q : Int) (acc : List Int), Jp l q → acc.length ≤ i → mD (i : Int) acc → ∃ s q2, Ev (fun k => dL.l0 k N acc (i : Int) l q) (s, q2) ∧ Jp l q2 ∧ mD N s
  | 0, i, hi, q, acc, hq, hl, ha => by
    refine ⟨acc, q, Ev.succ ?_, hq, ?_⟩
    · simp only [dL.l0]
      exact Ev.neg (by omega) (Ev.const _)
    · rwa [show (i : Int) = N by omega] at ha
  | n + 1, i, hi, q, acc, hq, hl, ha => by
    obtain ⟨v, q1, e1, h1, _, _⟩ := YZ hq 3 (by omega) (by omega)
    have hi1 : ((i + 1 : Nat) : Int) = (i : Int) + 1 := by omega
    by_cases hv : v = 0
    · obtain ⟨s, q2, e2, h2, hs⟩ := PS (l := l) hN n (i + 1) (by omega) q1 (acc ++ [(i : Int)]) h1 (by simp; omega) (by
        refine ⟨fun x hx => ?_, ?_⟩
        · rcases List.mem_append.1 hx with hx | hx
          · have := ha.1 x hx; omega
          · obtain rfl := List.mem_singleton.1 hx; omega
        · rw [List.pairwise_append]
          refine ⟨ha.2, by simp, fun x hx y hy => ?_⟩
          obtain rfl := List.mem_singleton.1 hy
          have := ha.1 x hx
          omega)
      refine ⟨s, q2, Ev.succ ?_, h2, hs⟩
      simp only [dL.l0, e1, Option.bind_some, Ck i (by omega)]
      exact Ev.pos (by omega) (Ev.pos hv (Ev.pos (by omega) e2))
    · obtain ⟨s, q2, e2, h2, hs⟩ := PS (l := l) hN n (i + 1) (by omega) q1 acc h1 (by omega) ⟨fun x hx => by have := ha.1 x hx; omega, ha.2⟩
      refine ⟨s, q2, Ev.succ ?_, h2, hs⟩
      simp only [dL.l0, e1, Option.bind_some, Ck i (by omega)]
      exact Ev.pos (by omega) (Ev.neg hv e2)
theorem afN {l : List Int} {q N : Int} (hq : Jp l q) (h0 : 0 ≤ N) (hN : N ≤ 1000) : ∃ s q2, Ev (fun k => dL.f k l q N) (s, q2) ∧ Jp l q2 ∧ mD N s := by
  simp only [dL.f]
  exact PS hN N.toNat 0 (by omega) q [] hq (by simp) ⟨fun x hx => by simp at hx, by simp⟩
end Go.Proofs.YtjmdlmogdbhdhaaDoor.P
namespace Go.Proofs.YtjmdlmogdbhdhaaDoor.P
open Go.RowKit Go.Proofs.YtjmdlmogdbhdhaaDoorW.PrintWords Go.Proofs.YtjmdlmogdbhdhaaDoorW.PrintLast Go.Proofs.YtjmdlmogdbhdhaaDoorW.PrintMore
attribute [local go_sem] iI iJ jP jQ gH gI iK iL
set_option linter.unusedVariables false
set_option linter.unusedSimpArgs false
set_option maxHeartbeats 8000000
set_option maxRecDepth 100000
def eO.f (au : Int) (ah : List (aD)) : Option (Bool) := some (decide ((ah.length : Int) ≤ 300))
theorem eO.calls (au : Int) (aZ : Option Addr) (aW : Nat) (ah : List (aD)) (r : Bool) (w : World) (eY : Kd.C gm w aZ ah.length ah) (eZ : ah.length ≤ aW) (h : eO.f au ah = some r) :
 Calls Tryd.prog 8 #[.agg #[.int .i64 au, .slice aZ ah.length aW]] w fun e w' => e = .returned (.bool r) ∧ Below w.heap.size w w' := by
 have uk := Tryd.underlying24; have cz := zA eY; have dX := zA eZ; clear eY eZ; have HB := zA (Below.refl w.heap.size w); have H : (some (decide ((ah.length : Int) ≤ 300))) = some r := h; clear h; obtain rfl := Option.some.inj H; go_enter Tryd.func8, Tryd.ntmps8; go_wp2_with (first | ((with_reducible refine aH (N := 1) rfl ?_); refine zX (N := 1) (cs := #[.int .i64 au, .slice aZ ah.length aW]) (t := 24) ?_; intro aAX hg w2 aG hb; have arU := zA (aG); have aAY := zA (zW hg HB); have aAZ := zA (zW hg HB); replace HB := zA (af (zB HB) hb); clear hb aG hg; obtain ⟨_, _, _, _⟩ := iG arU)); go_ret; exact ⟨ze, zB HB⟩
theorem afO {W W1 : World} {g : Nat} {a b : Value} {t : TypeId} (hg : g = W.heap.size) (aG : W1.heap[g]? = some (.cells #[a, b] t (0, 0))) (hb : Below W.heap.size W W1) (u v : Value) :
    ((W1.setCell ⟨g, 0, none⟩ u).setCell ⟨g, 1, none⟩ v).heap[g]? = some (.cells #[u, v] t (0, 0)) ∧ Below W.heap.size W ((W1.setCell ⟨g, 0, none⟩ u).setCell ⟨g, 1, none⟩ v) :=
  ⟨aV (cs := #[u, b]) (aV (cs := #[a, b]) aG 0 u rfl) 1 v rfl, bG (bG hb (Nat.le_of_eq hg.symm)) (Nat.le_of_eq hg.symm)⟩
theorem kbk {W W1 : World} {g gs : Nat} {o : Obj} (hk : aY W W1 gs none) (h : ag (W.heap[g]? = some o)) (ne : ag (g ≠ gs)) : W1.heap[g]? = some o := (hk.2 g (uR h.out) ne.out (by simp)).trans h.out
theorem xX {w0 W W1 : World} {g : Nat} {l : List Int} {p : Int} (h : aA w0 W g l p) (hb : Below W.heap.size W W1) : aA w0 W1 g l p := by
  obtain ⟨A, c, h1, h2, h3⟩ := h
  exact ⟨A, c, fo h1 hb, h2, h3⟩
theorem VF {w0 W : World} {g : Nat} {l : List Int} {p : Int} (h : aA w0 W g l p) : g < W.heap.size := by
  obtain ⟨A, c, h1, h2, h3⟩ := h
  exact uR h1
theorem aw1 {W : World} {g : Nat} {N0 N1 : Int} {A0 A1 : Option Addr} {c0 c1 : Nat} {L0 L1 : List aD} {t : TypeId} (P : Int → Option Addr → Nat → List aD → Prop)
    (h : W.heap[g]? = some (.cells #[.int .i64 N0, .slice A0 L0.length c0, .int .i64 N1, .slice A1 L1.length c1] t (0, 0))) (i : Nat) (hi : i < 2) (p0 : P N0 A0 c0 L0) (p1 : P N1 A1 c1 L1) :
    ∃ N A c L, P N A c L ∧ W.cell? ⟨g, i * 2, none⟩ = some (.int .i64 N) ∧ W.cell? ⟨g, i * 2 + 1, none⟩ = some (.slice A L.length c) := by
  have : i = 0 ∨ i = 1 := by omega
  rcases this with rfl | rfl
  · exact ⟨N0, A0, c0, L0, p0, (ai h 0).trans rfl, (ai h 1).trans rfl⟩
  · exact ⟨N1, A1, c1, L1, p1, (ai h 2).trans rfl, (ai h 3).trans rfl⟩
theorem arW {α : Type} {W : World} {g : Nat} {A0 A1 : Option Addr} {c0 c1 : Nat} {L0 L1 : List α} {t : TypeId} (P : Option Addr → Nat → List α → Prop)
    (h : W.heap[g]? = some (.cells #[.slice A0 L0.length c0, .slice A1 L1.length c1] t (0, 0))) (i : Nat) (hi : i < 2) (p0 : P A0 c0 L0) (p1 : P A1 c1 L1) :
    ∃ A c L, P A c L ∧ W.cell? ⟨g, i, none⟩ = some (.slice A (List.length L) c) := by
  have : i = 0 ∨ i = 1 := by omega
  rcases this with rfl | rfl
  · exact ⟨A0, c0, L0, p0, (ai h 0).trans rfl⟩
  · exact ⟨A1, c1, L1, p1, (ai h 1).trans rfl⟩
theorem aw2 {W : World} {g : Nat} {a b c : Int} {t : TypeId} (h : W.heap[g]? = some (.cells #[.int .i64 a, .int .i64 b, .int .i64 c] t (0, 0))) (i : Nat) (hi : i < 3) : ∃ x : Int, W.cell? ⟨g, i, none⟩ = some (.int .i64 x) := by
  have : i = 0 ∨ i = 1 ∨ i = 2 := by omega
  rcases this with rfl | rfl | rfl
  · exact ⟨a, (ai h 0).trans rfl⟩
  · exact ⟨b, (ai h 1).trans rfl⟩
  · exact ⟨c, (ai h 2).trans rfl⟩
theorem afP {W W1 : World} {g : Nat} {a b c : Value} {t : TypeId} (hg : g = W.heap.size) (aG : W1.heap[g]? = some (.cells #[a, b, c] t (0, 0))) (hb : Below W.heap.size W W1) (u v x : Value) :
    (((W1.setCell ⟨g, 0, none⟩ u).setCell ⟨g, 1, none⟩ v).setCell ⟨g, 2, none⟩ x).heap[g]? = some (.cells #[u, v, x] t (0, 0)) ∧ Below W.heap.size W (((W1.setCell ⟨g, 0, none⟩ u).setCell ⟨g, 1, none⟩ v).setCell ⟨g, 2, none⟩ x) :=
  ⟨aV (cs := #[u, v, c]) (aV (cs := #[u, b, c]) (aV (cs := #[a, b, c]) aG 0 u rfl) 1 v rfl) 2 x rfl, bG (bG (bG hb (Nat.le_of_eq hg.symm)) (Nat.le_of_eq hg.symm)) (Nat.le_of_eq hg.symm)⟩
theorem PT (a0 : Int) (A0 : Option Addr) (c0 : Nat) (l0 : List aD) (A1 : Option Addr) (c1 : Nat) (l1 : List Int) (A2 : Option Addr) (c2 : Nat) (l2 : List Int) (a3 : Int) (A4 : Option Addr) (c4 : Nat) (l4 : List aD) (w : World)
    (hr0 : Kd.C gm w A0 l0.length l0) (hc0 : l0.length ≤ c0) (hr1 : Kd.C (Kd.int .i64) w A1 l1.length l1) (hc1 : l1.length ≤ c1) (hr2 : Kd.C (Kd.int .i64) w A2 l2.length l2) (hc2 : l2.length ≤ c2) (hr4 : Kd.C gm w A4 l4.length l4) (hc4 : l4.length ≤ c4)
    (hw1 : ∀ x ∈ l1, (Lit.int .i64 x).wf = true) (hT : kQ w) (b0 : (l0.length : Int) ≤ 300) (b2 : (l2.length : Int) ≤ 60) (b4 : (l4.length : Int) ≤ 60) :
    Calls Tryd.prog 5 #[.agg #[.int .i64 a0, .slice A0 l0.length c0], .slice A1 l1.length c1, .slice A2 l2.length c2, .int .i64 a3, .slice A4 l4.length c4] w fun e w' => e = .returned (.bool true) ∧ Below w.heap.size w w' := by
  have uk := Tryd.underlying24
  have Mo := Tryd.underlying28
  have wV := Tryd.underlying42
  have uh := zA hr0
  have EK := zA hc0
  have HR1 := zA hr1
  have rX := zA hc1
  have HR2 := zA hr2
  have HC2 := zA hc2
  have HR4 := zA hr4
  have HC4 := zA hc4
  have lM := zA hT
  have HL0 := zA b0
  have HL2 := zA b2
  have HL4 := zA b4
  have HB := zA (Below.refl w.heap.size w)
  have HLi : ag (eO.f a0 l0 = some true) := ⟨by unfold eO.f; rw [decide_eq_true b0]⟩
  obtain ⟨ls, hn, hs0⟩ := ajg l1 hw1
  obtain ⟨Ng, Lg, q1, eg, hs1, hG, bN1, bN7⟩ := aaY hs0 7 (by omega) (by omega)
  obtain ⟨S, q2, es, hs2, hS⟩ := afN hs1 (N := Ng) (by omega) (by omega)
  obtain ⟨kg, hkg⟩ := eg.now
  obtain ⟨ks, hks⟩ := es.now
  have HN := zA hn
  have HG := zA hkg
  have HS := zA hks
  have HGG := zA hG
  have HSS := zA hS
  have HS2 := zA hs2
  have HbN := zA (And.intro bN1 (show Ng ≤ 40 by omega))
  clear bN1 bN7 hr0 hc0 hr1 hc1 hr2 hc2 hr4 hc4 hw1 hT b0 hn hs0 eg hs1 hG es hs2 hS hkg hks
  go_enter Tryd.func5, Tryd.ntmps5
  go_upto_region 4 with (first | ((with_reducible refine aH (N := 5) rfl ?_); refine zX (N := 5) (cs := #[.int .i64 a0, .slice A0 l0.length c0]) (t := 24) ?_; intro g5 hg w5 aG hb; have Jj := zA aG; have GW5 := zA (zW hg HB); replace HB := zA (af (zB HB) hb); clear hb aG hg; have EH := zc Jj 0; have EI := zc Jj 1) | ((with_reducible refine ay (f := 8) rfl ?_); refine zG (some 35) rfl Tryd.func8 #[.agg #[.int .i64 a0, .slice A0 l0.length c0]] ?_; (with_reducible refine (eO.calls a0 _ _ l0 true _ (jB uh HB) EK.out HLi.out).mono ?_); rintro e w' ⟨rfl, hb⟩; refine ⟨_, rfl, ?_⟩; replace Jj := zA (dn Jj hb); replace HB := zA (af (zB HB) hb); clear hb EH EI) | ((with_reducible refine ay (f := 11) rfl ?_); refine zG (some 49) rfl Tryd.func11 #[.slice A1 l1.length c1] ?_; (with_reducible refine (mM.calls _ _ l1 ls 0 w _ HB.out HR1.out rX.out HN.out).mono ?_); rintro e w' ⟨gs, rfl, hi, hb, hb2⟩; refine ⟨_, rfl, ?_⟩; replace Jj := zA (dn Jj hb2); have HI := zA hi; replace HB := zA hb; clear hb hb2 hi))
  obtain ⟨As, cs, hbs, aw4, hrs⟩ := HI.out
  have NB5 := zA (ait Jj.out hbs (by decide))
  clear hbs aw4 hrs
  go_upto_region 5 with (first | ((with_reducible refine ay (f := 12) rfl ?_); refine zG (some 51) rfl Tryd.func12 #[.pointer (some ⟨gs, 0, none⟩), .int .i64 7] ?_; (with_reducible refine (bA.calls kg gs ls 0 7 Ng Lg q1 w _ HI.out HB.out HG.out).mono ?_); rintro e w1 ⟨v, rfl, ho, hi, hb, hk⟩; refine ⟨_, rfl, ?_⟩; obtain ⟨Ag, cg, eg⟩ := Kd.bD ho; subst eg; have HCg := zA (Kd.aU ho).2.1; have HLg := zA (Kd.Kh (aA.apart hi ho (by decide)) (fun _ h_ => h_.2)); replace Jj := zA ((hk.2 g5 (uR Jj.out) NB5.out (by simp)).trans Jj.out); replace HI := zA hi; replace HB := zA hb; clear ho hi hb hk) | ((with_reducible refine aH (N := 12) rfl ?_); refine zX (N := 12) (cs := #[.int .i64 0, .slice none 0 0]) (t := 24) ?_; intro g12 hg w2 aG hb; have BX := zA aG; have HX := zA hb; have Ju := zA hg; clear hg aG hb; have tY := zc BX 0; have uU := zc BX 1; have aaB := bU BX.out 0; have aaC := bU BX.out 1))
  obtain ⟨ami, hbl⟩ := afO Ju.out BX.out HX.out (.int .i64 Ng) (.slice Ag Lg.length cg)
  have arX : ag (g12 ≠ gs) := ⟨by rw [Ju.out]; exact Nat.ne_of_gt (VF HI.out)⟩
  generalize (w2.setCell ⟨g12, 0, none⟩ (.int .i64 Ng)).setCell ⟨g12, 1, none⟩ (.slice Ag Lg.length cg) = w3 at ami hbl ⊢
  have PU := zA ami
  replace Jj := zA (dn Jj hbl)
  replace HI := zA (xX HI.out hbl)
  replace HLg := zA (Kd.yL HLg.out (aY.of_below hbl gs none))
  replace HB := zA (af HB.out hbl)
  clear ami hbl BX HX Ju tY uU aaB aaC
  have tY := zc PU 0
  go_upto_region 6 with (first | ((with_reducible refine ay (f := 15) rfl ?_); refine zG (some 55) rfl Tryd.func15 #[.pointer (some ⟨gs, 0, none⟩), .int .i64 Ng] ?_; (with_reducible refine (dL.calls ks gs ls q1 Ng S q2 w _ HI.out HB.out HS.out).mono ?_); rintro e w4 ⟨v, rfl, ho, hi, hb, hk⟩; refine ⟨_, rfl, ?_⟩; obtain ⟨Aso, cso, eg⟩ := Kd.bD ho; subst eg; have HCs := zA (Kd.aU ho).2.1; have HLs := zA (Kd.Kh (aA.apart hi ho (by decide)) (fun _ h_ => h_.2)); replace HLg := zA (Kd.yL HLg.out hk); replace Jj := zA (kbk hk Jj NB5); replace PU := zA (kbk hk PU arX); replace HI := zA hi; replace HB := zA hb; clear ho hi hb hk tY))
  have tY := zc PU 0
  have uU := zc PU 1
  have hcz2 := zc Jj 0
  have TU := zc Jj 1
  go_wp2_with fail
  have HB5 := zA (bB HB.out (.cells #[.int .i64 a0, .slice A0 l0.length c0, .int .i64 Ng, .slice Ag Lg.length cg] 24))
  have BKa := zA (lC w4 (.cells #[.int .i64 a0, .slice A0 l0.length c0, .int .i64 Ng, .slice Ag Lg.length cg] 24 (0, 0)))
  have hbl := bB (Below.refl w4.heap.size w4) (.cells #[.int .i64 a0, .slice A0 l0.length c0, .int .i64 Ng, .slice Ag Lg.length cg] 24)
  have NBa : ag (w4.heap.size ≠ gs) := ⟨Nat.ne_of_gt (VF HI.out)⟩
  replace HI := zA (xX HI.out hbl)
  replace HLg := zA (Kd.yL HLg.out (aY.of_below hbl gs none))
  replace HLs := zA (Kd.yL HLs.out (aY.of_below hbl gs none))
  replace PU := zA (dn PU hbl)
  clear hbl HB tY uU hcz2 TU Jj NB5
  generalize w4.heap.size = ga at BKa NBa ⊢
  generalize w4.alloc (.cells #[.int .i64 a0, .slice A0 l0.length c0, .int .i64 Ng, .slice Ag Lg.length cg] 24) = w5 at HB5 BKa HI HLg HLs PU ⊢
  have FR0 := zA (Kd.CO Km uh.out HB5.out (aA.ge HI.out))
  have FR2 := zA (Kd.CO (Kd.Kg .i64) HR2.out HB5.out (aA.ge HI.out))
  have FR4 := zA (Kd.CO Km HR4.out HB5.out (aA.ge HI.out))
  go_loopg [60] 2 (fun kq v60 w' => ∃ i : Nat, v60 = .int .i64 i ∧ ag (kq + i = 2) ∧ ag (Below w.heap.size w w') ∧ ag (aY w5 w' gs none) ∧ ag (∃ q, aA w w' gs ls q ∧ Jp ls q))
  case atStart => exact ⟨0, rfl, ⟨rfl⟩, HB5, ⟨aY.refl _ _ _⟩, ⟨q2, HI.out, HS2.out⟩⟩
  case round =>
    clear HB5 HI HS2 HN HG HS HLi
    obtain ⟨i, rfl, HIi, HB, HK, HI⟩ := hrel
    cases gk with
    | zero =>
      have hi : i = 2 := by have := HIi.out; omega
      subst hi
      go_wp2_with fail
      obtain ⟨ka, hka⟩ := GQ.now
      refine (iD.calls ka _ (kQ.now lM.out HB.out) hka).mono ?_
      rintro e w' ⟨rfl, hb⟩
      have HE := af HB.out hb
      go_wp2
      go_ret
      exact ⟨rfl, HE⟩
    | succ k1 =>
      have hi : i < 2 := by have := HIi.out; omega
      obtain ⟨Nx, Ax, cx, Lx, hP, hx0, hx1⟩ := aw1 (fun N A c L => L.length ≤ c ∧ L.length ≤ 10000 ∧ ∀ W', aY w5 W' gs none → Kd.C gm W' A L.length L) (kbk HK.out BKa NBa) i hi ⟨EK.out, by have := HL0.out; omega, FR0.out⟩ ⟨HCg.out, by have := mq HGG.out; omega, HLg.out⟩
      have HPx := zA hP
      clear hP
      go_upto_region 9 with (first | ((with_reducible refine aH (N := 15) rfl ?_); refine zX (N := 15) (cs := #[.int .i64 0, .slice none 0 0]) (t := 24) ?_; intro g15 hg w_ aG hb; have BX := zA aG; have HX := zA hb; have Ju := zA hg; clear hg aG hb; have Iw := zc BX 0; have Iy := bU BX.out 0; have E9 := zc BX 1; have Iz := bU BX.out 1))
      obtain ⟨q, hiq, hsq⟩ := HI.out
      have HIq := zA hiq
      obtain ⟨ps, q3, ep, hs3, hpr, hpl⟩ := aaZ hsq HbN.out
      obtain ⟨kp, hkp⟩ := ep.now
      have HP := zA hkp
      have HS3 := zA hs3
      have HPL := zA hpl
      clear hiq hsq ep hs3 hpr hpl hkp HI hx0 hx1
      obtain ⟨hbx, hbl⟩ := afO Ju.out BX.out HX.out (.int .i64 Nx) (.slice Ax Lx.length cx)
      generalize (w_.setCell ⟨g15, 0, none⟩ (.int .i64 Nx)).setCell ⟨g15, 1, none⟩ (.slice Ax Lx.length cx) = w7 at hbx hbl ⊢
      have MC := zA hbx
      have axb : ag (g15 ≠ gs) := ⟨by rw [Ju.out]; exact Nat.ne_of_gt (VF HIq.out)⟩
      have HI7 := zA (xX HIq.out hbl)
      have HB7 := zA (af HB.out hbl)
      have HK7 := zA (aY.trans HK.out (aY.of_below hbl gs none) (.inl rfl))
      clear hbx hbl BX HX Ju Iw Iy E9 Iz
      clear HB HK HIq
      have HBz := zA (kbk HK7.out PU arX)
      have tY := zc HBz 0
      go_wp2_with (first | ((with_reducible refine ay (f := 19) rfl ?_); refine zG (some 68) rfl Tryd.func19 #[.pointer (some ⟨gs, 0, none⟩), .int .i64 Ng] ?_; (with_reducible refine (dA.calls kp gs ls q Ng ps q3 w _ HI7.out HB7.out HP.out).mono ?_); rintro e w8 ⟨v, rfl, ho, hi, hb, hk⟩; refine ⟨_, rfl, ?_⟩; obtain ⟨Ap, cp, eg⟩ := Kd.bD ho; subst eg; have HCp := zA (Kd.aU ho).2.1; have HRp := zA (Kd.aU ho).2.2; have HK8 := zA (aY.trans HK7.out hk (.inl rfl)); replace MC := zA (kbk hk MC axb); have HI8 := zA hi; have HB8 := zA hb; clear ho hi hb hk tY HBz HI7 HB7 HK7))
      have hbl := bB (Below.refl w8.heap.size w8) (.cells #[.slice A4 l4.length c4, .slice Ap ps.length cp] 22)
      have BKb := zA (lC w8 (.cells #[.slice A4 l4.length c4, .slice Ap ps.length cp] 22 (0, 0)))
      replace HB8 := zA (af HB8.out hbl)
      replace HK8 := zA (aY.trans HK8.out (aY.of_below hbl gs none) (.inl rfl))
      replace HI8 := zA (xX HI8.out hbl)
      replace MC := zA (dn MC hbl)
      replace HRp := zA (Kd.bu HRp.out hbl)
      clear hbl
      generalize w8.heap.size = gb at BKb ⊢
      generalize w8.alloc (.cells #[.slice A4 l4.length c4, .slice Ap ps.length cp] 22) = w9 at BKb HB8 HK8 HI8 MC HRp ⊢
      have CX := zA (HPx.out.2.2 w9 HK8.out)
      have C4 := zA (FR4.out w9 HK8.out)
      have C2 := zA (FR2.out w9 HK8.out)
      have CS := zA (HLs.out w9 HK8.out)
      have HX1 := zA HPx.out.1
      have HX2 := zA HPx.out.2.1
      clear HPx
      go_loopg [71] 2 (fun kq v71 w' => ∃ j : Nat, v71 = .int .i64 j ∧ ag (kq + j = 2) ∧ ag (Below w9.heap.size w9 w'))
      case atStart => exact ⟨0, rfl, ⟨rfl⟩, ⟨Below.refl _ _⟩⟩
      case round =>
        obtain ⟨j, rfl, HJ, Tu⟩ := hrel
        cases gk with
        | succ k2 =>
          have hj : j < 2 := by have := HJ.out; omega
          obtain ⟨Al, cl, Ll, hQ, hy⟩ := arW (fun A c M => M.length ≤ c ∧ M.length ≤ 10000 ∧ Kd.C gm w9 A M.length M) (dn BKb Tu.out) j hj ⟨HC4.out, by have := HL4.out; omega, C4.out⟩ ⟨HCp.out, by have := HPL.out; omega, HRp.out⟩
          obtain ⟨⟨r1, r2, r3⟩, e1, e2, hl, _⟩ := acQ (N := Nx) (L := Lx) (l := Ll) HX2.out hQ.2.1
          obtain ⟨kt, hkt⟩ := e1.now
          obtain ⟨kr, hkr⟩ := e2.now
          obtain ⟨km, hkm⟩ := (aeh r1 r2 (by simp only at hl; omega)).now
          have HKt := zA hkt
          have HKr := zA hkr
          have HKm := zA hkm
          have HQ := zA hQ
          clear hQ e1 e2 hl hkt hkr hkm
          have CG := zA (dn MC Tu.out)
          have tY := zc CG 0
          have uU := zc CG 1
          have EN := zA (Kd.bu CX.out Tu.out)
          have CLr := zA (Kd.bu HQ.out.2.2 Tu.out)
          go_upto_region 13 with (first | ((with_reducible refine ay (f := 21) rfl ?_); refine zG (some 78) rfl Tryd.func21 #[.agg #[.int .i64 Nx, .slice Ax Lx.length cx], .slice Al Ll.length cl] ?_; (with_reducible refine (gB.calls kt Nx _ _ Lx _ _ Ll r1 r2 r3 _ EN.out HX1.out CLr.out HQ.out.1 HKt.out).mono ?_); rintro e yu ⟨v, rfl, ho, hb⟩; refine ⟨_, rfl, ?_⟩; obtain ⟨At, ct, eg⟩ := Kd.bD ho; subst eg; have HCt := zA (Kd.aU ho).2.1; have HRt := zA (Kd.aU ho).2.2; replace Tu := zA (af Tu.out hb); replace CG := zA (dn CG hb); replace EN := zA (Kd.bu EN.out hb); replace CLr := zA (Kd.bu CLr.out hb); clear ho hb tY uU) | ((with_reducible refine aH (N := 18) rfl ?_); refine zX (N := 18) (cs := #[.int .i64 0, .slice none 0 0]) (t := 24) ?_; intro g18 hg w_ aG hb; have BX := zA aG; have HX := zA hb; have Ju := zA hg; clear hg aG hb; have Iw := zc BX 0; have Iy := bU BX.out 0; have E9 := zc BX 1; have Iz := bU BX.out 1))
          obtain ⟨hbx, hbl⟩ := afO Ju.out BX.out HX.out (.int .i64 r1) (.slice At r2.length ct)
          generalize (w_.setCell ⟨g18, 0, none⟩ (.int .i64 r1)).setCell ⟨g18, 1, none⟩ (.slice At r2.length ct) = QE at hbx hbl ⊢
          have ZA := zA hbx
          replace Tu := zA (af Tu.out hbl)
          replace CG := zA (dn CG hbl)
          replace EN := zA (Kd.bu EN.out hbl)
          replace CLr := zA (Kd.bu CLr.out hbl)
          replace HRt := zA (Kd.bu HRt.out hbl)
          clear hbx hbl BX HX Ju Iw Iy E9 Iz
          have tY := zc CG 0
          have uU := zc CG 1
          go_upto_region 14 with (first | ((with_reducible refine ay (f := 23) rfl ?_); refine zG (some 84) rfl Tryd.func23 #[.agg #[.int .i64 Nx, .slice Ax Lx.length cx], .slice Al Ll.length cl] ?_; (with_reducible refine (aj.calls kr Nx (fun k_ => k_ < QE.heap.size) _ _ Lx _ _ Ll r1 r2 r3 _ (Kd.att HX1.out (Kd.C_F Km EN.out)) CLr.out HQ.out.1 HKr.out).mono ?_); rintro e Tz ⟨v, rfl, ho, hb⟩; refine ⟨_, rfl, ?_⟩; obtain ⟨Au, cu, eg⟩ := Kd.Ob ho; subst eg; have HCu := zA (Kd.vM ho).2.1; have HRu := zA (Kd.vM ho).2.2; replace Tu := zA (af Tu.out hb); replace ZA := zA (dn ZA hb); replace HRt := zA (Kd.bu HRt.out hb); clear ho hb tY uU CG EN CLr) | ((with_reducible refine aH (N := 20) rfl ?_); refine zX (N := 20) (cs := #[.int .i64 0, .slice none 0 0]) (t := 24) ?_; intro g20 hg w_ aG hb; have BX := zA aG; have HX := zA hb; have Ju := zA hg; clear hg aG hb; have Iw := zc BX 0; have Iy := bU BX.out 0; have E9 := zc BX 1; have Iz := bU BX.out 1))
          obtain ⟨hbx, hbl⟩ := afO Ju.out BX.out HX.out (.int .i64 r1) (.slice Au r2.length cu)
          generalize (w_.setCell ⟨g20, 0, none⟩ (.int .i64 r1)).setCell ⟨g20, 1, none⟩ (.slice Au r2.length cu) = Tw at hbx hbl ⊢
          have arZ := zA hbx
          replace Tu := zA (af Tu.out hbl)
          replace ZA := zA (dn ZA hbl)
          replace HRt := zA (Kd.bu HRt.out hbl)
          replace HRu := zA (Kd.bu HRu.out hbl)
          clear hbx hbl BX HX Ju Iw Iy E9 Iz
          have tY := zc ZA 0
          have uU := zc ZA 1
          have hcz2 := zc arZ 0
          have TU := zc arZ 1
          go_wp2_with fail
          refine (mO.calls km r1 _ _ r2 r1 _ _ r2 true _ HRt.out HCt.out HRu.out HCu.out HKm.out).mono ?_
          rintro e JF ⟨rfl, hb⟩
          replace Tu := zA (af Tu.out hb)
          clear hb tY uU hcz2 TU
          go_wp2
          go_roundg k2
          case measure => omega
          case rel => exact ⟨j + 1, by go_num, ⟨by have := HJ.out; omega⟩, Tu⟩
        | zero =>
          have hj : j = 2 := by have := HJ.out; omega
          subst hj
          go_wp2_with fail
          have hbl := bB (Below.refl wr.heap.size wr) (.cells #[.slice A2 l2.length c2, .slice Aso S.length cso] 25)
          have BKc := zA (lC wr (.cells #[.slice A2 l2.length c2, .slice Aso S.length cso] 25 (0, 0)))
          have H12 := af Tu.out hbl
          replace MC := zA (dn MC H12)
          replace CX := zA (Kd.bu CX.out H12)
          replace C2 := zA (Kd.bu C2.out H12)
          replace CS := zA (Kd.bu CS.out H12)
          replace HB8 := zA (af HB8.out H12)
          replace HK8 := zA (aY.trans HK8.out (aY.of_below H12 gs none) (.inl rfl))
          replace HI8 := zA (xX HI8.out H12)
          clear hbl H12 Tu BKb C4 HRp HCp HJ
          generalize wr.heap.size = gc at BKc ⊢
          generalize wr.alloc (.cells #[.slice A2 l2.length c2, .slice Aso S.length cso] 25) = Tz at BKc MC CX C2 CS HB8 HK8 HI8 ⊢
          go_loopg [101] 2 (fun kq axf w' => ∃ j : Nat, axf = .int .i64 j ∧ ag (kq + j = 2) ∧ ag (Below Tz.heap.size Tz w'))
          case atStart => exact ⟨0, rfl, ⟨rfl⟩, ⟨Below.refl _ _⟩⟩
          case round =>
            obtain ⟨j3, rfl, HJ3, ZB⟩ := hrel
            cases gk with
            | zero =>
              have hj : j3 = 2 := by have := HJ3.out; omega
              subst hj
              go_wp2
              go_roundg k1
              case measure => omega
              case rel => exact ⟨i + 1, by go_num, ⟨by have := HIi.out; omega⟩, ⟨af HB8.out ZB.out⟩, ⟨aY.trans HK8.out (aY.of_below ZB.out gs none) (.inl rfl)⟩, ⟨q3, xX HI8.out ZB.out, HS3.out⟩⟩
            | succ k3 =>
              have hj : j3 < 2 := by have := HJ3.out; omega
              have hjb : decide ((j3 : Int) < 2) = true := decide_eq_true (by omega)
              obtain ⟨At, ct, Lt, hQ, hy⟩ := arW (fun A c (M : List Int) => M.length ≤ c ∧ M.length ≤ 10000 ∧ Kd.C (Kd.int .i64) Tz A M.length M) (dn BKc ZB.out) j3 hj ⟨HC2.out, by have := HL2.out; omega, C2.out⟩ ⟨HCs.out, by have := HSS.out.len HGG.out.n0 HGG.out.n1; omega, CS.out⟩
              have HQ := zA hQ
              clear hQ
              go_wp2_with fail
              have hbl := bB (Below.refl wr.heap.size wr) (.cells #[.int .i64 a3, .int .i64 1, .int .i64 2] 3)
              have BKd := zA (lC wr (.cells #[.int .i64 a3, .int .i64 1, .int .i64 2] 3 (0, 0)))
              have H13 := zA (af ZB.out hbl)
              clear hbl ZB hy
              generalize wr.heap.size = gd at BKd ⊢
              generalize wr.alloc (.cells #[.int .i64 a3, .int .i64 1, .int .i64 2] 3) = Tw at BKd H13 ⊢
              go_loopg [108] 3 (fun kq axj w' => ∃ j : Nat, axj = .int .i64 j ∧ ag (kq + j = 3) ∧ ag (Below Tw.heap.size Tw w'))
              case atStart => exact ⟨0, rfl, ⟨rfl⟩, ⟨Below.refl _ _⟩⟩
              case round =>
                obtain ⟨j4, rfl, HJ4, xI⟩ := hrel
                cases gk with
                | zero =>
                  have hj : j4 = 3 := by have := HJ4.out; omega
                  subst hj
                  go_wp2
                  go_roundg k3
                  case measure => omega
                  case rel => exact ⟨j3 + 1, by go_num, ⟨by have := HJ3.out; omega⟩, ⟨af H13.out xI.out⟩⟩
                | succ k4 =>
                  have hj : j4 < 3 := by have := HJ4.out; omega
                  obtain ⟨kk, hz⟩ := aw2 (dn BKd xI.out) j4 hj
                  obtain ⟨⟨x1, x2, x3, x4⟩, e1, e2, hsm⟩ : ∃ v, Ev (fun k => ji.f k Nx Lx Lt kk) v ∧ Ev (fun k => ak.f k Nx Lx Lt kk) v ∧ Ca v.1 v.2.1 v.2.2.1 := ⟨_, alK (by have := HX2.out; omega) (by have := HQ.out.2.1; omega), XU (by have := HX2.out; omega) (by have := HQ.out.2.1; omega), VC Nx Lx Lt kk⟩
                  obtain ⟨⟨y1, y2, y3, y4⟩, e3, e4, hsn⟩ : ∃ v, Ev (fun k => bV.f k Nx Lx Lt kk) v ∧ Ev (fun k => az.f k Nx Lx Lt kk) v ∧ Ca v.1 v.2.1 v.2.2.1 := ⟨_, al5 (by have := HX2.out; omega) (by have := HQ.out.2.1; omega), afK (by have := HX2.out; omega) (by have := HQ.out.2.1; omega), VD Nx Lx Lt kk⟩
                  obtain ⟨kA, hkA⟩ := e1.now
                  obtain ⟨kB, hkB⟩ := e2.now
                  obtain ⟨kC, hkC⟩ := e3.now
                  obtain ⟨kD, hkD⟩ := e4.now
                  obtain ⟨kM, hkM⟩ := (Yf hsm).now
                  obtain ⟨kN, hkN⟩ := (Yf hsn).now
                  have HKA := zA hkA
                  have HKB := zA hkB
                  have HKC := zA hkC
                  have HKD := zA hkD
                  have HKM := zA hkM
                  have HKN := zA hkN
                  clear e1 e2 e3 e4 hsm hsn hkA hkB hkC hkD hkM hkN
                  have Hc := af H13.out xI.out
                  have CG := zA (dn MC Hc)
                  have EN := zA (Kd.bu CX.out Hc)
                  have L8 := zA (Kd.bu HQ.out.2.2 Hc)
                  have NT := zA (af HB8.out Hc)
                  clear Hc
                  have tY := zc CG 0
                  have uU := zc CG 1
                  go_upto_region 24 with (first | ((with_reducible refine ay (f := 24) rfl ?_); refine zG (some 116) rfl Tryd.func24 #[.agg #[.int .i64 Nx, .slice Ax Lx.length cx], .slice At Lt.length ct, .int .i64 kk] ?_; (with_reducible refine (ji.calls kA Nx _ _ Lx _ _ Lt kk x1 x2 x3 x4 _ EN.out HX1.out L8.out HQ.out.1 (kQ.now lM.out NT.out) HKA.out).mono ?_); rintro e JF ⟨v0, v1, v2, rfl, h0, h1, h2, hb⟩; refine ⟨_, rfl, ?_⟩; obtain ⟨ar0, aih, eg⟩ := Kd.bD h0; subst eg; obtain ⟨ar1, aii, eg⟩ := Kd.bD h1; subst eg; obtain ⟨ar2, aij, eg⟩ := Kd.kX h2; subst eg; replace CG := zA (dn CG hb); replace EN := zA (Kd.bu EN.out hb); replace L8 := zA (Kd.bu L8.out hb); replace NT := zA (af NT.out hb); replace xI := zA (af xI.out hb); have axl := zA (Kd.aU h0).2.1; have Du := zA (Kd.aU h0).2.2; have axm := zA (Kd.aU h1).2.1; have Dv := zA (Kd.aU h1).2.2; have axn := zA (Kd.jO h2).2.1; have Dw := zA (Kd.jO h2).2.2; clear h0 h1 h2 hb tY uU) | ((with_reducible refine aH (N := 26) rfl ?_); refine zX (N := 26) (cs := #[.slice none 0 0, .slice none 0 0, .slice none 0 0]) (t := 28) ?_; intro g26 hg w_ aG hb; have BX := zA aG; have HX := zA hb; have Ju := zA hg; clear hg aG hb; have Iw := zc BX 0; have Iy := bU BX.out 0; have E9 := zc BX 1; have Iz := bU BX.out 1; have Qz := zc BX 2; have VG := bU BX.out 2))
                  obtain ⟨hbx, hbl⟩ := afP Ju.out BX.out HX.out (.slice ar0 x1.length aih) (.slice ar1 x2.length aii) (.slice ar2 x3.length aij)
                  generalize ((w_.setCell ⟨g26, 0, none⟩ (.slice ar0 x1.length aih)).setCell ⟨g26, 1, none⟩ (.slice ar1 x2.length aii)).setCell ⟨g26, 2, none⟩ (.slice ar2 x3.length aij) = aD1 at hbx hbl ⊢
                  have Dx := zA hbx
                  replace CG := zA (dn CG hbl)
                  replace EN := zA (Kd.bu EN.out hbl)
                  replace L8 := zA (Kd.bu L8.out hbl)
                  replace NT := zA (af NT.out hbl)
                  replace xI := zA (af xI.out hbl)
                  replace Du := zA (Kd.bu Du.out hbl)
                  replace Dv := zA (Kd.bu Dv.out hbl)
                  replace Dw := zA (Kd.bu Dw.out hbl)
                  clear hbx hbl BX HX Ju Iw Iy E9 Iz Qz VG
                  have tY := zc CG 0
                  have uU := zc CG 1
                  go_upto_region 25 with (first | ((with_reducible refine ay (f := 14) rfl ?_); refine zG (some 123) rfl Tryd.func14 #[.agg #[.int .i64 Nx, .slice Ax Lx.length cx], .slice At Lt.length ct, .int .i64 kk] ?_; (with_reducible refine (ak.calls kB Nx _ _ Lx _ _ Lt kk x1 x2 x3 x4 _ EN.out HX1.out L8.out HQ.out.1 HKB.out).mono ?_); rintro e JF ⟨v0, v1, v2, rfl, h0, h1, h2, hb⟩; refine ⟨_, rfl, ?_⟩; obtain ⟨ar3, aik, eg⟩ := Kd.bD h0; subst eg; obtain ⟨ar4, ail, eg⟩ := Kd.bD h1; subst eg; obtain ⟨ar5, aim, eg⟩ := Kd.kX h2; subst eg; replace CG := zA (dn CG hb); replace EN := zA (Kd.bu EN.out hb); replace L8 := zA (Kd.bu L8.out hb); replace NT := zA (af NT.out hb); replace xI := zA (af xI.out hb); replace Du := zA (Kd.bu Du.out hb); replace Dv := zA (Kd.bu Dv.out hb); replace Dw := zA (Kd.bu Dw.out hb); replace Dx := zA (dn Dx hb); have axp := zA (Kd.aU h0).2.1; have IA := zA (Kd.aU h0).2.2; have axq := zA (Kd.aU h1).2.1; have IC := zA (Kd.aU h1).2.2; have axr := zA (Kd.jO h2).2.1; have IE := zA (Kd.jO h2).2.2; clear h0 h1 h2 hb tY uU) | ((with_reducible refine aH (N := 28) rfl ?_); refine zX (N := 28) (cs := #[.slice none 0 0, .slice none 0 0, .slice none 0 0]) (t := 28) ?_; intro g28 hg w_ aG hb; have BX := zA aG; have HX := zA hb; have Ju := zA hg; clear hg aG hb; have Iw := zc BX 0; have Iy := bU BX.out 0; have E9 := zc BX 1; have Iz := bU BX.out 1; have Qz := zc BX 2; have VG := bU BX.out 2))
                  obtain ⟨hbx, hbl⟩ := afP Ju.out BX.out HX.out (.slice ar3 x1.length aik) (.slice ar4 x2.length ail) (.slice ar5 x3.length aim)
                  generalize ((w_.setCell ⟨g28, 0, none⟩ (.slice ar3 x1.length aik)).setCell ⟨g28, 1, none⟩ (.slice ar4 x2.length ail)).setCell ⟨g28, 2, none⟩ (.slice ar5 x3.length aim) = aD2 at hbx hbl ⊢
                  have II := zA hbx
                  replace CG := zA (dn CG hbl)
                  replace EN := zA (Kd.bu EN.out hbl)
                  replace L8 := zA (Kd.bu L8.out hbl)
                  replace NT := zA (af NT.out hbl)
                  replace xI := zA (af xI.out hbl)
                  replace Du := zA (Kd.bu Du.out hbl)
                  replace Dv := zA (Kd.bu Dv.out hbl)
                  replace Dw := zA (Kd.bu Dw.out hbl)
                  replace Dx := zA (dn Dx hbl)
                  replace IA := zA (Kd.bu IA.out hbl)
                  replace IC := zA (Kd.bu IC.out hbl)
                  replace IE := zA (Kd.bu IE.out hbl)
                  clear hbx hbl BX HX Ju Iw Iy E9 Iz Qz VG
                  have tY := zc CG 0
                  have uU := zc CG 1
                  go_upto_region 26 with (first | ((with_reducible refine ay (f := 25) rfl ?_); refine zG (some 130) rfl Tryd.func25 #[.agg #[.int .i64 Nx, .slice Ax Lx.length cx], .slice At Lt.length ct, .int .i64 kk] ?_; (with_reducible refine (bV.calls kC Nx _ _ Lx _ _ Lt kk y1 y2 y3 y4 _ EN.out HX1.out L8.out HQ.out.1 (kQ.now lM.out NT.out) HKC.out).mono ?_); rintro e JF ⟨v0, v1, v2, rfl, h0, h1, h2, hb⟩; refine ⟨_, rfl, ?_⟩; obtain ⟨ar6, ain, eg⟩ := Kd.bD h0; subst eg; obtain ⟨ar7, aio, eg⟩ := Kd.bD h1; subst eg; obtain ⟨ar8, aip, eg⟩ := Kd.kX h2; subst eg; replace CG := zA (dn CG hb); replace EN := zA (Kd.bu EN.out hb); replace L8 := zA (Kd.bu L8.out hb); replace NT := zA (af NT.out hb); replace xI := zA (af xI.out hb); replace Du := zA (Kd.bu Du.out hb); replace Dv := zA (Kd.bu Dv.out hb); replace Dw := zA (Kd.bu Dw.out hb); replace Dx := zA (dn Dx hb); replace IA := zA (Kd.bu IA.out hb); replace IC := zA (Kd.bu IC.out hb); replace IE := zA (Kd.bu IE.out hb); replace II := zA (dn II hb); have axu := zA (Kd.aU h0).2.1; have PV := zA (Kd.aU h0).2.2; have axv := zA (Kd.aU h1).2.1; have PW := zA (Kd.aU h1).2.2; have axw := zA (Kd.jO h2).2.1; have PX := zA (Kd.jO h2).2.2; clear h0 h1 h2 hb tY uU) | ((with_reducible refine aH (N := 30) rfl ?_); refine zX (N := 30) (cs := #[.slice none 0 0, .slice none 0 0, .slice none 0 0]) (t := 28) ?_; intro g30 hg w_ aG hb; have BX := zA aG; have HX := zA hb; have Ju := zA hg; clear hg aG hb; have Iw := zc BX 0; have Iy := bU BX.out 0; have E9 := zc BX 1; have Iz := bU BX.out 1; have Qz := zc BX 2; have VG := bU BX.out 2))
                  obtain ⟨hbx, hbl⟩ := afP Ju.out BX.out HX.out (.slice ar6 y1.length ain) (.slice ar7 y2.length aio) (.slice ar8 y3.length aip)
                  generalize ((w_.setCell ⟨g30, 0, none⟩ (.slice ar6 y1.length ain)).setCell ⟨g30, 1, none⟩ (.slice ar7 y2.length aio)).setCell ⟨g30, 2, none⟩ (.slice ar8 y3.length aip) = aD3 at hbx hbl ⊢
                  have PY := zA hbx
                  replace CG := zA (dn CG hbl)
                  replace EN := zA (Kd.bu EN.out hbl)
                  replace L8 := zA (Kd.bu L8.out hbl)
                  replace NT := zA (af NT.out hbl)
                  replace xI := zA (af xI.out hbl)
                  replace Du := zA (Kd.bu Du.out hbl)
                  replace Dv := zA (Kd.bu Dv.out hbl)
                  replace Dw := zA (Kd.bu Dw.out hbl)
                  replace Dx := zA (dn Dx hbl)
                  replace IA := zA (Kd.bu IA.out hbl)
                  replace IC := zA (Kd.bu IC.out hbl)
                  replace IE := zA (Kd.bu IE.out hbl)
                  replace II := zA (dn II hbl)
                  replace PV := zA (Kd.bu PV.out hbl)
                  replace PW := zA (Kd.bu PW.out hbl)
                  replace PX := zA (Kd.bu PX.out hbl)
                  clear hbx hbl BX HX Ju Iw Iy E9 Iz Qz VG
                  have tY := zc CG 0
                  have uU := zc CG 1
                  go_upto_region 27 with (first | ((with_reducible refine ay (f := 26) rfl ?_); refine zG (some 137) rfl Tryd.func26 #[.agg #[.int .i64 Nx, .slice Ax Lx.length cx], .slice At Lt.length ct, .int .i64 kk] ?_; (with_reducible refine (az.calls kD Nx _ _ Lx _ _ Lt kk y1 y2 y3 y4 _ EN.out HX1.out L8.out HQ.out.1 HKD.out).mono ?_); rintro e JF ⟨v0, v1, v2, rfl, h0, h1, h2, hb⟩; refine ⟨_, rfl, ?_⟩; obtain ⟨ar9, aiq, eg⟩ := Kd.bD h0; subst eg; obtain ⟨asa, air, eg⟩ := Kd.bD h1; subst eg; obtain ⟨asb, ais, eg⟩ := Kd.kX h2; subst eg; replace CG := zA (dn CG hb); replace EN := zA (Kd.bu EN.out hb); replace L8 := zA (Kd.bu L8.out hb); replace NT := zA (af NT.out hb); replace xI := zA (af xI.out hb); replace Du := zA (Kd.bu Du.out hb); replace Dv := zA (Kd.bu Dv.out hb); replace Dw := zA (Kd.bu Dw.out hb); replace Dx := zA (dn Dx hb); replace IA := zA (Kd.bu IA.out hb); replace IC := zA (Kd.bu IC.out hb); replace IE := zA (Kd.bu IE.out hb); replace II := zA (dn II hb); replace PV := zA (Kd.bu PV.out hb); replace PW := zA (Kd.bu PW.out hb); replace PX := zA (Kd.bu PX.out hb); replace PY := zA (dn PY hb); have axy := zA (Kd.aU h0).2.1; have ads := zA (Kd.aU h0).2.2; have axz := zA (Kd.aU h1).2.1; have adt := zA (Kd.aU h1).2.2; have axA := zA (Kd.jO h2).2.1; have adu := zA (Kd.jO h2).2.2; clear h0 h1 h2 hb tY uU) | ((with_reducible refine aH (N := 32) rfl ?_); refine zX (N := 32) (cs := #[.slice none 0 0, .slice none 0 0, .slice none 0 0]) (t := 28) ?_; intro g32 hg w_ aG hb; have BX := zA aG; have HX := zA hb; have Ju := zA hg; clear hg aG hb; have Iw := zc BX 0; have Iy := bU BX.out 0; have E9 := zc BX 1; have Iz := bU BX.out 1; have Qz := zc BX 2; have VG := bU BX.out 2))
                  obtain ⟨hbx, hbl⟩ := afP Ju.out BX.out HX.out (.slice ar9 y1.length aiq) (.slice asa y2.length air) (.slice asb y3.length ais)
                  generalize ((w_.setCell ⟨g32, 0, none⟩ (.slice ar9 y1.length aiq)).setCell ⟨g32, 1, none⟩ (.slice asa y2.length air)).setCell ⟨g32, 2, none⟩ (.slice asb y3.length ais) = aD4 at hbx hbl ⊢
                  have adv := zA hbx
                  replace CG := zA (dn CG hbl)
                  replace EN := zA (Kd.bu EN.out hbl)
                  replace L8 := zA (Kd.bu L8.out hbl)
                  replace NT := zA (af NT.out hbl)
                  replace xI := zA (af xI.out hbl)
                  replace Du := zA (Kd.bu Du.out hbl)
                  replace Dv := zA (Kd.bu Dv.out hbl)
                  replace Dw := zA (Kd.bu Dw.out hbl)
                  replace Dx := zA (dn Dx hbl)
                  replace IA := zA (Kd.bu IA.out hbl)
                  replace IC := zA (Kd.bu IC.out hbl)
                  replace IE := zA (Kd.bu IE.out hbl)
                  replace II := zA (dn II hbl)
                  replace PV := zA (Kd.bu PV.out hbl)
                  replace PW := zA (Kd.bu PW.out hbl)
                  replace PX := zA (Kd.bu PX.out hbl)
                  replace PY := zA (dn PY hbl)
                  replace ads := zA (Kd.bu ads.out hbl)
                  replace adt := zA (Kd.bu adt.out hbl)
                  replace adu := zA (Kd.bu adu.out hbl)
                  clear hbx hbl BX HX Ju Iw Iy E9 Iz Qz VG
                  have amm := zc Dx 0
                  have amn := zc Dx 1
                  have amo := zc Dx 2
                  have amq := zc II 0
                  have amr := zc II 1
                  have ams := zc II 2
                  go_wp2_with fail
                  refine (bq.calls kM _ _ x1 _ _ x2 _ _ x3 _ _ x1 _ _ x2 _ _ x3 true _ Du.out axl.out Dv.out axm.out Dw.out axn.out IA.out axp.out IC.out axq.out IE.out axr.out HKM.out).mono ?_
                  rintro e ZF ⟨rfl, hb⟩
                  replace CG := zA (dn CG hb)
                  replace EN := zA (Kd.bu EN.out hb)
                  replace L8 := zA (Kd.bu L8.out hb)
                  replace NT := zA (af NT.out hb)
                  replace xI := zA (af xI.out hb)
                  replace Du := zA (Kd.bu Du.out hb)
                  replace Dv := zA (Kd.bu Dv.out hb)
                  replace Dw := zA (Kd.bu Dw.out hb)
                  replace Dx := zA (dn Dx hb)
                  replace IA := zA (Kd.bu IA.out hb)
                  replace IC := zA (Kd.bu IC.out hb)
                  replace IE := zA (Kd.bu IE.out hb)
                  replace II := zA (dn II hb)
                  replace PV := zA (Kd.bu PV.out hb)
                  replace PW := zA (Kd.bu PW.out hb)
                  replace PX := zA (Kd.bu PX.out hb)
                  replace PY := zA (dn PY hb)
                  replace ads := zA (Kd.bu ads.out hb)
                  replace adt := zA (Kd.bu adt.out hb)
                  replace adu := zA (Kd.bu adu.out hb)
                  replace adv := zA (dn adv hb)
                  clear hb amm amn amo amq amr ams
                  have amt := zc PY 0
                  have amu := zc PY 1
                  have amv := zc PY 2
                  have amw := zc adv 0
                  have amx := zc adv 1
                  have amy := zc adv 2
                  go_wp2_with fail
                  refine (bq.calls kN _ _ y1 _ _ y2 _ _ y3 _ _ y1 _ _ y2 _ _ y3 true _ PV.out axu.out PW.out axv.out PX.out axw.out ads.out axy.out adt.out axz.out adu.out axA.out HKN.out).mono ?_
                  rintro e w16 ⟨rfl, hb⟩
                  replace xI := zA (af xI.out hb)
                  clear hb amt amu amv amw amx amy
                  go_wp2
                  go_roundg k4
                  case measure => omega
                  case rel => exact ⟨j4 + 1, by go_num, ⟨by have := HJ4.out; omega⟩, xI⟩
theorem PZ (a0 : Int) (A0 : Option Addr) (c0 : Nat) (l0 : List aD) (A1 : Option Addr) (c1 : Nat) (l1 : List Int) (A2 : Option Addr) (c2 : Nat) (l2 : List Int) (a3 : Int) (A4 : Option Addr) (c4 : Nat) (l4 : List aD) (w : World)
    (hr0 : Kd.C gm w A0 l0.length l0) (hc0 : l0.length ≤ c0) (hr1 : Kd.C (Kd.int .i64) w A1 l1.length l1) (hc1 : l1.length ≤ c1) (hr2 : Kd.C (Kd.int .i64) w A2 l2.length l2) (hc2 : l2.length ≤ c2) (hr4 : Kd.C gm w A4 l4.length l4) (hc4 : l4.length ≤ c4)
    (hw1 : ∀ x ∈ l1, (Lit.int .i64 x).wf = true) (hT : kQ w) (b0 : (300 : Int) < (l0.length : Int)) :
    Calls Tryd.prog 5 #[.agg #[.int .i64 a0, .slice A0 l0.length c0], .slice A1 l1.length c1, .slice A2 l2.length c2, .int .i64 a3, .slice A4 l4.length c4] w fun e w' => e = .returned (.bool true) ∧ Below w.heap.size w w' := by
  have uk := Tryd.underlying24
  have uh := zA hr0
  have EK := zA hc0
  have lM := zA hT
  have HB := zA (Below.refl w.heap.size w)
  obtain ⟨ka, hka⟩ := GQ.now
  have HA := zA hka
  have HLi : ag (eO.f a0 l0 = some false) := ⟨by unfold eO.f; rw [decide_eq_false (by omega)]⟩
  clear hr0 hc0 hr1 hc1 hr2 hc2 hr4 hc4 hw1 hT hka
  go_enter Tryd.func5, Tryd.ntmps5
  go_wp2_with (first | ((with_reducible refine aH (N := 5) rfl ?_); refine zX (N := 5) (cs := #[.int .i64 a0, .slice A0 l0.length c0]) (t := 24) ?_; intro g5 hg w5 aG hb; have Jj := zA aG; replace HB := zA (af (zB HB) hb); clear hb aG hg; have EH := zc Jj 0; have EI := zc Jj 1) | ((with_reducible refine ay (f := 8) rfl ?_); refine zG (some 35) rfl Tryd.func8 #[.agg #[.int .i64 a0, .slice A0 l0.length c0]] ?_; (with_reducible refine (eO.calls a0 _ _ l0 false _ (jB uh HB) EK.out HLi.out).mono ?_); rintro e w' ⟨rfl, hb⟩; refine ⟨_, rfl, ?_⟩; replace HB := zA (af HB.out hb); clear hb EH EI) | ((with_reducible refine ay (f := 10) rfl ?_); refine zG (some 47) rfl Tryd.func10 #[] ?_; (with_reducible refine (iD.calls ka _ (kQ.now lM.out HB.out) HA.out).mono ?_); rintro e w' ⟨rfl, hb⟩; refine ⟨_, rfl, ?_⟩; replace HB := zA (af HB.out hb); clear hb))
  go_ret
  exact ⟨rfl, HB.out⟩
theorem P6 (a0 : Int) (A0 : Option Addr) (c0 : Nat) (l0 : List aD) (A1 : Option Addr) (c1 : Nat) (l1 : List Int) (A2 : Option Addr) (c2 : Nat) (l2 : List Int) (a3 : Int) (A4 : Option Addr) (c4 : Nat) (l4 : List aD) (w : World)
    (hr0 : Kd.C gm w A0 l0.length l0) (hc0 : l0.length ≤ c0) (hr1 : Kd.C (Kd.int .i64) w A1 l1.length l1) (hc1 : l1.length ≤ c1) (hr2 : Kd.C (Kd.int .i64) w A2 l2.length l2) (hc2 : l2.length ≤ c2) (hr4 : Kd.C gm w A4 l4.length l4) (hc4 : l4.length ≤ c4)
    (hw1 : ∀ x ∈ l1, (Lit.int .i64 x).wf = true) (hT : kQ w) (b0 : (l0.length : Int) ≤ 300) (b2 : (60 : Int) < (l2.length : Int)) :
    Calls Tryd.prog 5 #[.agg #[.int .i64 a0, .slice A0 l0.length c0], .slice A1 l1.length c1, .slice A2 l2.length c2, .int .i64 a3, .slice A4 l4.length c4] w fun e w' => e = .returned (.bool true) ∧ Below w.heap.size w w' := by
  have uk := Tryd.underlying24
  have uh := zA hr0
  have EK := zA hc0
  have lM := zA hT
  have HB := zA (Below.refl w.heap.size w)
  obtain ⟨ka, hka⟩ := GQ.now
  have HA := zA hka
  have HLi : ag (eO.f a0 l0 = some true) := ⟨by unfold eO.f; rw [decide_eq_true b0]⟩
  clear hr0 hc0 hr1 hc1 hr2 hc2 hr4 hc4 hw1 hT hka
  go_enter Tryd.func5, Tryd.ntmps5
  go_wp2_with (first | ((with_reducible refine aH (N := 5) rfl ?_); refine zX (N := 5) (cs := #[.int .i64 a0, .slice A0 l0.length c0]) (t := 24) ?_; intro g5 hg w5 aG hb; have Jj := zA aG; replace HB := zA (af (zB HB) hb); clear hb aG hg; have EH := zc Jj 0; have EI := zc Jj 1) | ((with_reducible refine ay (f := 8) rfl ?_); refine zG (some 35) rfl Tryd.func8 #[.agg #[.int .i64 a0, .slice A0 l0.length c0]] ?_; (with_reducible refine (eO.calls a0 _ _ l0 true _ (jB uh HB) EK.out HLi.out).mono ?_); rintro e w' ⟨rfl, hb⟩; refine ⟨_, rfl, ?_⟩; replace HB := zA (af HB.out hb); clear hb EH EI) | ((with_reducible refine ay (f := 10) rfl ?_); refine zG (some 47) rfl Tryd.func10 #[] ?_; (with_reducible refine (iD.calls ka _ (kQ.now lM.out HB.out) HA.out).mono ?_); rintro e w' ⟨rfl, hb⟩; refine ⟨_, rfl, ?_⟩; replace HB := zA (af HB.out hb); clear hb))
  go_ret
  exact ⟨rfl, HB.out⟩
theorem P7 (a0 : Int) (A0 : Option Addr) (c0 : Nat) (l0 : List aD) (A1 : Option Addr) (c1 : Nat) (l1 : List Int) (A2 : Option Addr) (c2 : Nat) (l2 : List Int) (a3 : Int) (A4 : Option Addr) (c4 : Nat) (l4 : List aD) (w : World)
    (hr0 : Kd.C gm w A0 l0.length l0) (hc0 : l0.length ≤ c0) (hr1 : Kd.C (Kd.int .i64) w A1 l1.length l1) (hc1 : l1.length ≤ c1) (hr2 : Kd.C (Kd.int .i64) w A2 l2.length l2) (hc2 : l2.length ≤ c2) (hr4 : Kd.C gm w A4 l4.length l4) (hc4 : l4.length ≤ c4)
    (hw1 : ∀ x ∈ l1, (Lit.int .i64 x).wf = true) (hT : kQ w) (b0 : (l0.length : Int) ≤ 300) (b2 : (l2.length : Int) ≤ 60) (b4 : (60 : Int) < (l4.length : Int)) :
    Calls Tryd.prog 5 #[.agg #[.int .i64 a0, .slice A0 l0.length c0], .slice A1 l1.length c1, .slice A2 l2.length c2, .int .i64 a3, .slice A4 l4.length c4] w fun e w' => e = .returned (.bool true) ∧ Below w.heap.size w w' := by
  have uk := Tryd.underlying24
  have uh := zA hr0
  have EK := zA hc0
  have lM := zA hT
  have HB := zA (Below.refl w.heap.size w)
  obtain ⟨ka, hka⟩ := GQ.now
  have HA := zA hka
  have HLi : ag (eO.f a0 l0 = some true) := ⟨by unfold eO.f; rw [decide_eq_true b0]⟩
  clear hr0 hc0 hr1 hc1 hr2 hc2 hr4 hc4 hw1 hT hka
  go_enter Tryd.func5, Tryd.ntmps5
  go_wp2_with (first | ((with_reducible refine aH (N := 5) rfl ?_); refine zX (N := 5) (cs := #[.int .i64 a0, .slice A0 l0.length c0]) (t := 24) ?_; intro g5 hg w5 aG hb; have Jj := zA aG; replace HB := zA (af (zB HB) hb); clear hb aG hg; have EH := zc Jj 0; have EI := zc Jj 1) | ((with_reducible refine ay (f := 8) rfl ?_); refine zG (some 35) rfl Tryd.func8 #[.agg #[.int .i64 a0, .slice A0 l0.length c0]] ?_; (with_reducible refine (eO.calls a0 _ _ l0 true _ (jB uh HB) EK.out HLi.out).mono ?_); rintro e w' ⟨rfl, hb⟩; refine ⟨_, rfl, ?_⟩; replace HB := zA (af HB.out hb); clear hb EH EI) | ((with_reducible refine ay (f := 10) rfl ?_); refine zG (some 47) rfl Tryd.func10 #[] ?_; (with_reducible refine (iD.calls ka _ (kQ.now lM.out HB.out) HA.out).mono ?_); rintro e w' ⟨rfl, hb⟩; refine ⟨_, rfl, ?_⟩; replace HB := zA (af HB.out hb); clear hb))
  go_ret
  exact ⟨rfl, HB.out⟩
theorem ME (a0 : Int) (A0 : Option Addr) (c0 : Nat) (l0 : List aD) (A1 : Option Addr) (c1 : Nat) (l1 : List Int) (A2 : Option Addr) (c2 : Nat) (l2 : List Int) (a3 : Int) (A4 : Option Addr) (c4 : Nat) (l4 : List aD) (w : World)
    (hr0 : Kd.C gm w A0 l0.length l0) (hc0 : l0.length ≤ c0) (hr1 : Kd.C (Kd.int .i64) w A1 l1.length l1) (hc1 : l1.length ≤ c1) (hr2 : Kd.C (Kd.int .i64) w A2 l2.length l2) (hc2 : l2.length ≤ c2) (hr4 : Kd.C gm w A4 l4.length l4) (hc4 : l4.length ≤ c4)
    (hw1 : ∀ x ∈ l1, (Lit.int .i64 x).wf = true) (hT : kQ w) :
    Calls Tryd.prog 5 #[.agg #[.int .i64 a0, .slice A0 l0.length c0], .slice A1 l1.length c1, .slice A2 l2.length c2, .int .i64 a3, .slice A4 l4.length c4] w fun e w' => e = .returned (.bool true) ∧ Below w.heap.size w w' := by
  by_cases b0 : (l0.length : Int) ≤ 300
  · by_cases b2 : (l2.length : Int) ≤ 60
    · by_cases b4 : (l4.length : Int) ≤ 60
      · exact PT a0 A0 c0 l0 A1 c1 l1 A2 c2 l2 a3 A4 c4 l4 w hr0 hc0 hr1 hc1 hr2 hc2 hr4 hc4 hw1 hT b0 b2 b4
      · exact P7 a0 A0 c0 l0 A1 c1 l1 A2 c2 l2 a3 A4 c4 l4 w hr0 hc0 hr1 hc1 hr2 hc2 hr4 hc4 hw1 hT b0 b2 (by omega)
    · exact P6 a0 A0 c0 l0 A1 c1 l1 A2 c2 l2 a3 A4 c4 l4 w hr0 hc0 hr1 hc1 hr2 hc2 hr4 hc4 hw1 hT b0 (by omega)
  · exact PZ a0 A0 c0 l0 A1 c1 l1 A2 c2 l2 a3 A4 c4 l4 w hr0 hc0 hr1 hc1 hr2 hc2 hr4 hc4 hw1 hT (by omega)
end Go.Proofs.YtjmdlmogdbhdhaaDoor.P
