import Derived.Deep.DeepMust
import Derived.RegionTactic
import Derived.Lib.RabinKarpLaws
import Derived.Test.YtjmdlmogdbhdhaaDoorA2
import Derived.Test.YtjmdlmogdbhdhaaDoorA3
namespace Go.Proofs.YtjmdlmogdbhdhaaDoor.P
open Go.RowKit Go.Proofs.YtjmdlmogdbhdhaaDoorW.PrintWords Go.Proofs.YtjmdlmogdbhdhaaDoorW.PrintLast Go.Proofs.YtjmdlmogdbhdhaaDoorW.PrintMore
attribute [local go_sem] iI iJ jP jQ gH gI iK iL
set_option linter.unusedVariables false
set_option linter.unusedSimpArgs false
set_option maxHeartbeats 8000000
set_option maxRecDepth 100000
mutual
def bN.l0 : Nat → List Int → Int → List (List (aD)) → Int → Int → List Int → List (aD) → List (List (aD)) → Option (List Int × (List (aD)) × (List (List (aD))))
 | 0, _, _, _, _, _, _, _, _ => none
 | k + 1, x1, x7, WL, x24, x25, Bw, vH, Bz => if x25 < x24 then (if 0 ≤ x25 then (if x25 < (WL.length : Int) then (if 0 < ((bC WL x25).length : Int) then ((cO.f x7 ((aa (bC WL x25) 0).f0)).bind fun ake => (if ake = true then ((cO.f x7 ((aa (bC WL x25) 0).f1)).bind fun aeQ => (bN.j1 k x1 x7 WL x24 x25 (!aeQ) Bw vH Bz ((aa (bC WL x25) 0).f0) ((aa (bC WL x25) 0).f1))) else (bN.j1 k x1 x7 WL x24 x25 true Bw vH Bz ((aa (bC WL x25) 0).f0) ((aa (bC WL x25) 0).f1)))) else (none)) else (none)) else (none)) else (some (Bw, vH, Bz))
def bN.j1 : Nat → List Int → Int → List (List (aD)) → Int → Int → Bool → List Int → List (aD) → List (List (aD)) → Int → Int → Option (List Int × (List (aD)) × (List (List (aD))))
 | 0, _, _, _, _, _, _, _, _, _, _, _ => none
 | k + 1, x1, x7, WL, x24, x25, x43, Bw, vH, Bz, WM, OQ => if x43 = true then ((cO.f x7 OQ).bind fun akf => (if akf = true then (if 0 < (x1.length : Int) then (if vH.length < 8796093022208 then (bN.l0 k x1 x7 WL x24 (wrap64 (x25 + 1)) Bw (vH ++ [(⟨rd x1 0, WM⟩ : aD)]) Bz) else (none)) else (none)) else (if 0 < (x1.length : Int) then (if vH.length < 8796093022208 then (bN.l0 k x1 x7 WL x24 (wrap64 (x25 + 1)) Bw (vH ++ [(⟨rd x1 0, OQ⟩ : aD)]) Bz) else (none)) else (none)))) else (if vH.length < 8796093022208 then (bN.l0 k x1 x7 WL x24 (wrap64 (x25 + 1)) Bw (vH ++ [(⟨WM, OQ⟩ : aD)]) Bz) else (none))
end
def bN.f (k : Nat) (au : Int) (ah : List (aD)) (l1 : List Int) (a2 : Int) : Option (List Int × (List (aD)) × (List (List (aD)))) := (fJ.f k l1).bind fun BA => ((iM.f l1).bind fun oP => ((aM.f k au ah l1 a2).bind fun dS => (bN.l0 k l1 BA dS (dS.length : Int) 0 oP ([] : List (aD)) dS)))
def bN.T2 : Bool × List (List Nat × List Nat) := (true, [([], []), ([0], [0]), ([], []), ([], []), ([], []), ([2, 3, 4, 1], [2, 3, 4]), ([1, 5], [1, 5]), ([], []), ([7, 6, 5, 0, 1, 2, 3, 4, 5, 6, 7], [6, 7])])
def bN.B2 : List Nat := [0, 1, 0, 0, 0, 31, 63, 0, 255]
theorem bN.abG : oO .any (opsOf Tryd.f47 2) = bN.T2 := by kernel_rfl
theorem bN.Rl : lD bN.T2.2 bN.B2 = true := by kernel_rfl
theorem bN.calls (k : Nat) (au : Int) (aZ : Option Addr) (aW : Nat) (ah : List (aD)) (A1 : Option Addr) (c1 : Nat) (l1 : List Int) (a2 : Int) (r1 : List Int) (r2 : List (aD)) (r3 : List (List (aD))) (w : World) (eY : Kd.C gm w aZ ah.length ah) (eZ : ah.length ≤ aW) (hr1 : Kd.C (Kd.int .i64) w A1 l1.length l1) (hc1 : l1.length ≤ c1) (hT : kQ w) (h : bN.f k au ah l1 a2 = some (r1, r2, r3)) :
 Calls Tryd.prog 47 #[.agg #[.int .i64 au, .slice aZ ah.length aW], .slice A1 l1.length c1, .int .i64 a2] w fun e w' => ∃ Db C8 P9 : Value, e = .returned (.agg #[Db, C8, P9]) ∧ Kd.R (Kd.int .i64) 3 w' w.heap.size (fun _ => True) Db r1 ∧ Kd.R gm 42 w' w.heap.size (fun _ => True) C8 r2 ∧ Kd.S (Kd.slice 42 gm) 22 w' w.heap.size (fun k_ => some k_ ≠ (C8 : Value).ownBlock) P9 r3 ∧ Below w.heap.size w w' := by
 have uk := Tryd.underlying24; have Mo := Tryd.underlying28; have wV := Tryd.underlying42; have cz := zA eY; have dX := zA eZ; clear eY eZ; have HR1 := zA hr1; have rX := zA hc1; clear hr1 hc1; have lM := zA hT; clear hT; have HB := zA (Below.refl w.heap.size w); have H : ((fJ.f k l1).bind fun BA => ((iM.f l1).bind fun oP => ((aM.f k au ah l1 a2).bind fun dS => (bN.l0 k l1 BA dS (dS.length : Int) 0 oP ([] : List (aD)) dS)))) = some (r1, r2, r3) := h; clear h; replace H := zE H; obtain ⟨BA, A4, H⟩ := H; (try dsimp only at H); replace H := zE H; obtain ⟨oP, A5, H⟩ := H; (try dsimp only at H); replace H := zE H; obtain ⟨dS, A6, H⟩ := H; (try dsimp only at H); have H' := zA H; clear H; go_enter Tryd.func47, Tryd.ntmps47; try go_wp2_with (first | ((with_reducible refine aH (N := 3) rfl ?_); refine zX (N := 3) (cs := #[.int .i64 au, .slice aZ ah.length aW]) (t := 24) ?_; intro tK hg w7 aG hb; have fO := zA (aG); have ay1 := zA (zW hg HB); have ay2 := zA (zW hg HB); replace HB := zA (af (zB HB) hb); clear hb aG hg) | ((with_reducible refine aH (N := 6) rfl ?_); refine zX (N := 6) (cs := #[.slice none 0 0, .slice none 0 0, .slice none 0 0]) (t := 28) ?_; intro qM hg w8 aG hb; have iF := zA (aG); have ay3 := zA (zW hg HB); have ay4 := zA (zW hg HB); have Y9 := zA (lZ hg fO); have Za := zA (l5 hg fO); replace fO := zA (dn fO hb); replace HB := zA (af (zB HB) hb); clear hb aG hg) | ((with_reducible refine ay (f := 48) rfl ?_); refine zG (some 14) rfl Tryd.func48 #[.slice A1 l1.length c1] ?_; (with_reducible refine (fJ.calls k _ _ l1 BA _ ?aI ?aN A4.out).mono ?_); (case aI => exact jB HR1 HB); (case aN => exact rX.out); rintro e w' ⟨rfl, ⟨nd, rfl⟩⟩; refine ⟨_, rfl, ?_⟩; (try (rw [sU w8]; generalize vG : World.drewN w8 _ = w8; replace fO : ag (w8.heap[tK]? = some (.cells #[.int .i64 au, .slice aZ ah.length aW] 24 (0, 0))) := ⟨by rw [← vG]; exact (zK fO)⟩; replace iF : ag (w8.heap[qM]? = some (.cells #[.slice none 0 0, .slice none 0 0, .slice none 0 0] 28 (0, 0))) := ⟨by rw [← vG]; exact (zK iF)⟩; replace HB : ag (Below w.heap.size w w8) := ⟨by rw [← vG]; exact (zB HB)⟩; clear vG))))
 replace fO := zA (bO fO.out); replace iF := zA (bO iF.out); replace HB := zA (bn HB.out); refine EJ (n := 9) (S := fun w' => w'.cell? ⟨tK, 0, none⟩ = some (.int .i64 au) ∧ w'.cell? ⟨tK, 1, none⟩ = some (.slice aZ ah.length aW)) (ds := []) bN.abG bN.Rl ⟨(ai fO.out 0).trans rfl, (ai fO.out 1).trans rfl⟩ (fun hHeld qd DY => ?_); generalize w8.drew = w9 at fO iF HB hHeld ⊢; refine zp 0 ?_; refine zp 3 ?_; refine zp 4 ?_; refine zt 2 ?_; refine Cb (σ := Value × Value × Nat) 1 #[true, true, true, true, true, true, true, true, false] (fun s_ => [(16, s_.1), (20, s_.2.1), (8, .pointer (some ⟨s_.2.2, 0, none⟩)), (21, .agg #[s_.1, .slice none 0 0, s_.2.1])]) (fun s_ w' => (w'.cell? ⟨tK, 0, none⟩ = some (.int .i64 au) ∧ w'.cell? ⟨tK, 1, none⟩ = some (.slice aZ ah.length aW)) ∧ (Kd.R (Kd.int .i64) 3 w' w.heap.size (fun _ => True) s_.1 oP) ∧ (Kd.S (Kd.slice 42 gm) 22 w' w.heap.size (fun _ => True) s_.2.1 dS) ∧ (w'.heap[tK]? = some (.cells #[.int .i64 au, .slice aZ ah.length aW] 24 (0, 0))) ∧ (w'.heap[qM]? = some (.cells #[.slice none 0 0, .slice none 0 0, .slice none 0 0] 28 (0, 0))) ∧ (w'.heap[s_.2.2]? = some (.cells #[.slice none 0 0, .slice none 0 0, .slice none 0 0] 28 (0, 0))) ∧ (w.heap.size ≤ s_.2.2) ∧ (w.heap.size ≤ s_.2.2) ∧ (tK ≠ s_.2.2) ∧ (s_.2.2 ≠ tK) ∧ (qM ≠ s_.2.2) ∧ (s_.2.2 ≠ qM) ∧ (Below w.heap.size w w')) ?_ ?_; rotate_left
 · intro vU; refine Ke (i := 1) (j := 7) (Ni := some 16) (Nj := some 8) #[true, true, true, true, true, false, false, false, false] #[true, false, true, true, true, false, false, true, false] rfl rfl rfl rfl (wB qd.out (by kernel_rfl)) (by decide) (by decide) (fun K hK => ?_) (fun K hK => ?_)
   · refine lu Tryd.func76 (by kernel_rfl) rfl #[.slice A1 l1.length c1] (by rfl) rfl rfl Cc ?_; with_reducible refine (iM.calls _ _ l1 oP _ ?aI ?aN A5.out).mono ?_
     (case aI => exact jB HR1 HB); (case aN => exact rX.out); rintro e yu ⟨akg, rfl, ho0, hb⟩; refine ⟨_, rfl, ?_⟩; have tL := zA (Kd.dw ho0 (aJ (zB HB))); replace fO := zA (dn fO hb); replace iF := zA (dn iF hb); replace HB := zA (af (zB HB) hb); refine hK.out _ _ ⟨(ai fO.out 0).trans rfl, (ai fO.out 1).trans rfl⟩ (fun hHeld => ?_); clear hK K; refine qp 16 ?_; refine Ke (i := 5) (j := 7) (Ni := some 20) (Nj := some 8) #[true, true, true, true, true, true, false, false, false] #[true, true, true, true, true, false, false, true, false] rfl rfl rfl rfl (wB qd.out (by kernel_rfl)) (by decide) (by decide) (fun K hK => ?_) (fun K hK => ?_)
     · refine lu Tryd.func52 (by kernel_rfl) rfl #[.agg #[.int .i64 au, .slice aZ ah.length aW], .slice A1 l1.length c1, .int .i64 a2] (by rfl) rfl rfl Cc ?_; with_reducible refine (aM.calls k au _ _ ah _ _ l1 a2 dS _ ?aI ?aN ?bS ?bT ?jh A6.out).mono ?_
       (case aI => exact jB cz HB); (case aN => exact dX.out); (case bS => exact jB HR1 HB); (case bT => exact rX.out); (case jh => exact kQ.now lM.out (zB HB)); rintro e QE ⟨aeR, rfl, ho0, hb⟩; refine ⟨_, rfl, ?_⟩; have yZ := zA (Kd.pI ho0 (aJ (zB HB))); replace tL := zA (Kd.bf (zR tL) hb); replace fO := zA (dn fO hb); replace iF := zA (dn iF hb); replace HB := zA (af (zB HB) hb); obtain ⟨rY, rZ, ⟨⟩⟩ := Ce (Kd.kX yZ.out); obtain ⟨Hu, Hw, ⟨⟩⟩ := Ce (Kd.bD tL.out); refine hK.out _ _ ⟨(ai fO.out 0).trans rfl, (ai fO.out 1).trans rfl⟩ (fun hHeld => ?_); clear hK K; refine qp 20 ?_; refine zp 6 ?_; refine wU 7 (fun K hK => ?_); refine pK ?hg (N := 8) ?hd (cs := #[.slice none 0 0, .slice none 0 0, .slice none 0 0]) (t := 28) ?hr ?_; (case hd => rfl); (case hg => rfl); (case hr => first | (go_simp; done) | (go_simp; rfl)); intro j5 hg JF aG hb; have gT := zA (aG); have Nq := zA (zW hg HB); have Nr := zA (zW hg HB); have iB := zA (lZ hg fO); have mX := zA (l5 hg fO); have jU := zA (lZ hg iF); have mY := zA (l5 hg iF); replace tL := zA (Kd.bf (zR tL) hb); replace yZ := zA (Kd.iY (zS yZ) hb); replace fO := zA (dn fO hb); replace iF := zA (dn iF hb); replace HB := zA (af (zB HB) hb); clear hb aG hg; refine hK.out _ _ ⟨(ai fO.out 0).trans rfl, (ai fO.out 1).trans rfl⟩ (fun hHeld => ?_); clear hK K; refine qp 8 ?_; exact Jm (vU (.slice Hu oP.length Hw, .slice rY dS.length rZ, j5) _ ⟨hHeld, (zR tL), (zS yZ), (zK fO), (zK iF), (zK gT), Nq.out, Nr.out, iB.out, mX.out, jU.out, mY.out, (zB HB)⟩)
     · refine pK ?hg (N := 8) ?hd (cs := #[.slice none 0 0, .slice none 0 0, .slice none 0 0]) (t := 28) ?hr ?_; (case hd => rfl); (case hg => rfl); (case hr => first | (go_simp; done) | (go_simp; rfl)); intro j5 hg QE aG hb; have gT := zA (aG); have Nq := zA (zW hg HB); have Nr := zA (zW hg HB); have iB := zA (lZ hg fO); have mX := zA (l5 hg fO); have jU := zA (lZ hg iF); have mY := zA (l5 hg iF); replace tL := zA (Kd.bf (zR tL) hb); replace fO := zA (dn fO hb); replace iF := zA (dn iF hb); replace HB := zA (af (zB HB) hb); clear hb aG hg; refine hK.out _ _ ⟨(ai fO.out 0).trans rfl, (ai fO.out 1).trans rfl⟩ (fun hHeld => ?_); clear hK K; refine qp 8 ?_; refine wU 5 (fun K hK => ?_); refine lu Tryd.func52 (by kernel_rfl) rfl #[.agg #[.int .i64 au, .slice aZ ah.length aW], .slice A1 l1.length c1, .int .i64 a2] (by rfl) rfl rfl Cc ?_; with_reducible refine (aM.calls k au _ _ ah _ _ l1 a2 dS _ ?aI ?aN ?bS ?bT ?jh A6.out).mono ?_
       (case aI => exact jB cz HB); (case aN => exact dX.out); (case bS => exact jB HR1 HB); (case bT => exact rX.out); (case jh => exact kQ.now lM.out (zB HB)); rintro e Tz ⟨aeR, rfl, ho0, hb⟩; refine ⟨_, rfl, ?_⟩; have yZ := zA (Kd.pI ho0 (aJ (zB HB))); replace tL := zA (Kd.bf (zR tL) hb); replace fO := zA (dn fO hb); replace iF := zA (dn iF hb); replace gT := zA (dn gT hb); replace HB := zA (af (zB HB) hb); obtain ⟨Hu, Hw, ⟨⟩⟩ := Ce (Kd.kX yZ.out); obtain ⟨ql, oL, ⟨⟩⟩ := Ce (Kd.bD tL.out); refine hK.out _ _ ⟨(ai fO.out 0).trans rfl, (ai fO.out 1).trans rfl⟩ (fun hHeld => ?_); clear hK K; refine qp 20 ?_; refine zp 6 ?_; exact Jm (vU (.slice ql oP.length oL, .slice Hu dS.length Hw, j5) _ ⟨hHeld, (zR tL), (zS yZ), (zK fO), (zK iF), (zK gT), Nq.out, Nr.out, iB.out, mX.out, jU.out, mY.out, (zB HB)⟩)
   · refine pK ?hg (N := 8) ?hd (cs := #[.slice none 0 0, .slice none 0 0, .slice none 0 0]) (t := 28) ?hr ?_; (case hd => rfl); (case hg => rfl); (case hr => first | (go_simp; done) | (go_simp; rfl)); intro j5 hg yu aG hb; have gT := zA (aG); have Nq := zA (zW hg HB); have Nr := zA (zW hg HB); have iB := zA (lZ hg fO); have mX := zA (l5 hg fO); have jU := zA (lZ hg iF); have mY := zA (l5 hg iF); replace fO := zA (dn fO hb); replace iF := zA (dn iF hb); replace HB := zA (af (zB HB) hb); clear hb aG hg; refine hK.out _ _ ⟨(ai fO.out 0).trans rfl, (ai fO.out 1).trans rfl⟩ (fun hHeld => ?_); clear hK K; refine qp 8 ?_; refine wU 1 (fun K hK => ?_); refine lu Tryd.func76 (by kernel_rfl) rfl #[.slice A1 l1.length c1] (by rfl) rfl rfl Cc ?_; with_reducible refine (iM.calls _ _ l1 oP _ ?aI ?aN A5.out).mono ?_
     (case aI => exact jB HR1 HB); (case aN => exact rX.out); rintro e QE ⟨akg, rfl, ho0, hb⟩; refine ⟨_, rfl, ?_⟩; have tL := zA (Kd.dw ho0 (aJ (zB HB))); replace fO := zA (dn fO hb); replace iF := zA (dn iF hb); replace gT := zA (dn gT hb); replace HB := zA (af (zB HB) hb); refine hK.out _ _ ⟨(ai fO.out 0).trans rfl, (ai fO.out 1).trans rfl⟩ (fun hHeld => ?_); clear hK K; refine qp 16 ?_; refine wU 5 (fun K hK => ?_); refine lu Tryd.func52 (by kernel_rfl) rfl #[.agg #[.int .i64 au, .slice aZ ah.length aW], .slice A1 l1.length c1, .int .i64 a2] (by rfl) rfl rfl Cc ?_; with_reducible refine (aM.calls k au _ _ ah _ _ l1 a2 dS _ ?aI ?aN ?bS ?bT ?jh A6.out).mono ?_
     (case aI => exact jB cz HB); (case aN => exact dX.out); (case bS => exact jB HR1 HB); (case bT => exact rX.out); (case jh => exact kQ.now lM.out (zB HB)); rintro e Tz ⟨aeR, rfl, ho0, hb⟩; refine ⟨_, rfl, ?_⟩; have yZ := zA (Kd.pI ho0 (aJ (zB HB))); replace tL := zA (Kd.bf (zR tL) hb); replace fO := zA (dn fO hb); replace iF := zA (dn iF hb); replace gT := zA (dn gT hb); replace HB := zA (af (zB HB) hb); obtain ⟨Hu, Hw, ⟨⟩⟩ := Ce (Kd.kX yZ.out); obtain ⟨ql, oL, ⟨⟩⟩ := Ce (Kd.bD tL.out); refine hK.out _ _ ⟨(ai fO.out 0).trans rfl, (ai fO.out 1).trans rfl⟩ (fun hHeld => ?_); clear hK K; refine qp 20 ?_; refine zp 6 ?_; exact Jm (vU (.slice ql oP.length oL, .slice Hu dS.length Hw, j5) _ ⟨hHeld, (zR tL), (zS yZ), (zK fO), (zK iF), (zK gT), Nq.out, Nr.out, iB.out, mX.out, jU.out, mY.out, (zB HB)⟩)
 rintro ⟨akg, aeR, j5⟩ ZF ⟨EW, Df, Dg, Dh, Di, KL, M7, M8, M9, Na, Q0, Fp, Q4⟩; have tL : ag (Kd.R (Kd.int .i64) 3 ZF w.heap.size (fun _ => True) akg oP) := ⟨Df⟩; have yZ : ag (Kd.S (Kd.slice 42 gm) 22 ZF w.heap.size (fun _ => True) aeR dS) := ⟨Dg⟩; have gT : ag (ZF.heap[j5]? = some (.cells #[.slice none 0 0, .slice none 0 0, .slice none 0 0] 28 (0, 0))) := ⟨KL⟩; have Nq : ag (w.heap.size ≤ j5) := ⟨M7⟩; have Nr : ag (w.heap.size ≤ j5) := ⟨M8⟩; have iB : ag (tK ≠ j5) := ⟨M9⟩; have mX : ag (j5 ≠ tK) := ⟨Na⟩; have jU : ag (qM ≠ j5) := ⟨Q0⟩; have mY : ag (j5 ≠ qM) := ⟨Fp⟩; replace fO : ag (ZF.heap[tK]? = some (.cells #[.int .i64 au, .slice aZ ah.length aW] 24 (0, 0))) := ⟨Dh⟩; replace iF : ag (ZF.heap[qM]? = some (.cells #[.slice none 0 0, .slice none 0 0, .slice none 0 0] 28 (0, 0))) := ⟨Di⟩; replace HB : ag (Below w.heap.size w ZF) := ⟨Q4⟩; clear Df Dg Dh Di KL M7 M8 M9 Na Q0 Fp Q4; have hHeld : ZF.cell? ⟨tK, 0, none⟩ = some (.int .i64 au) ∧ ZF.cell? ⟨tK, 1, none⟩ = some (.slice aZ ah.length aW) := EW; obtain ⟨xe, qm, ⟨⟩⟩ := Ce (Kd.kX yZ.out); obtain ⟨wD, wE, ⟨⟩⟩ := Ce (Kd.bD tL.out); refine ZC ?_; refine wU 8 (fun K hK => ?_); have at5 := zc gT 0; have an3 := bU gT.out 0; have aen := iB.out; have aeo := jU.out; have aep := mX.out; have aeq := mY.out; have at6 := zc gT 1; have an4 := bU gT.out 1; have aer := iB.out; have aes := jU.out; have aet := mX.out; have aeu := mY.out; have aB7 := zc gT 2; have ay5 := bU gT.out 2; have asO := iB.out; have asP := jU.out; have asQ := mX.out; have asR := mY.out; refine IU (w1 := ?_) (by rfl) rfl ?_ ?_; rotate_left; · go_simp; rfl
 refine hK.out _ _ ⟨((cell_far (p := ⟨j5, _, none⟩) iB.out _).trans (((cell_far (p := ⟨j5, _, none⟩) iB.out _).trans (((cell_far (p := ⟨j5, _, none⟩) iB.out _).trans (hHeld.1)))))), ((cell_far (p := ⟨j5, _, none⟩) iB.out _).trans (((cell_far (p := ⟨j5, _, none⟩) iB.out _).trans (((cell_far (p := ⟨j5, _, none⟩) iB.out _).trans (hHeld.2))))))⟩ (fun hHeld => ?_); clear hK K; refine lK (iZ qd.out (by kernel_rfl)) ?_; have VX := mX.out; have VY := iB.out; have V8 := mY.out; have V9 := jU.out; obtain ⟨_, _, _, _, _, _⟩ := nG gT; try go_wp2
 go_loopg [25] k (fun kq v25 w' => ∃ (dJ : Int) (jI : List (aD)) (kU : Value), v25 = .int .i64 dJ ∧ ag (bN.l0 kq l1 BA dS (dS.length : Int) dJ oP jI dS = some (r1, r2, r3)) ∧ ag (kq ≤ k) ∧ ag (Kd.S (Kd.slice 42 gm) 22 w' w.heap.size (fun k_ => some k_ ≠ (kU : Value).ownBlock) (.slice xe dS.length qm) dS) ∧ ag (Kd.R (Kd.int .i64) 3 w' w.heap.size (fun _ => True) (.slice wD oP.length wE) oP) ∧ ag (Kd.R gm 42 w' w.heap.size (fun _ => True) kU jI) ∧ ag (Kd.S (Kd.slice 42 gm) 22 w' w.heap.size (fun k_ => some k_ ≠ (kU : Value).ownBlock) (.slice xe dS.length qm) dS) ∧ ag (w'.heap[tK]? = some (.cells #[.int .i64 au, (.slice aZ ah.length aW)] 24 (0, 0))) ∧ ag (w'.heap[qM]? = some (.cells #[(.slice none 0 0), (.slice none 0 0), (.slice none 0 0)] 28 (0, 0))) ∧ ag (w'.heap[j5]? = some (.cells #[(.slice wD oP.length wE), kU, (.slice xe dS.length qm)] 28 (0, 0))) ∧ ag (Below w.heap.size w w'))
 case atStart => exact ⟨(0), (([] : List (aD))), (.slice none 0 0), zv, H', ⟨Nat.le_refl _⟩, ⟨by refine sM ?_; exact Kd.dF (Kd.eB (p := ⟨j5, 2, none⟩) (Kd.eB (p := ⟨j5, 1, none⟩) (Kd.eB (p := ⟨j5, 0, none⟩) (Kd.jY yZ.out gT.out (by decide)) (fun _ hk => hk.2) (.slice wD oP.length wE)) (fun _ hk => hk.2) (.slice none 0 0)) (fun _ hk => hk.2) (.slice xe dS.length qm)) (fun _ hk => (by simp [Value.ownBlock]))⟩, ⟨by refine jF ?_; exact Kd.aQ (Kd.aT (p := ⟨j5, 2, none⟩) (Kd.aT (p := ⟨j5, 1, none⟩) (Kd.aT (p := ⟨j5, 0, none⟩) (Kd.bJ tL.out gT.out (by decide)) (fun _ hk => hk.2) (.slice wD oP.length wE)) (fun _ hk => hk.2) (.slice none 0 0)) (fun _ hk => hk.2) (.slice xe dS.length qm)) (fun _ hk => trivial)⟩, ⟨Ab⟩, ⟨by refine sM ?_; exact Kd.dF (Kd.eB (p := ⟨j5, 2, none⟩) (Kd.eB (p := ⟨j5, 1, none⟩) (Kd.eB (p := ⟨j5, 0, none⟩) (Kd.jY yZ.out gT.out (by decide)) (fun _ hk => hk.2) (.slice wD oP.length wE)) (fun _ hk => hk.2) (.slice none 0 0)) (fun _ hk => hk.2) (.slice xe dS.length qm)) (fun _ hk => (by simp [Value.ownBlock]))⟩, ⟨by refine iA iB.out ?_; refine iA iB.out ?_; refine iA iB.out ?_; refine zk ?_; exact fO.out⟩, ⟨by refine iA jU.out ?_; refine iA jU.out ?_; refine iA jU.out ?_; refine zk ?_; exact iF.out⟩, ⟨by refine zk ?_; refine aV (cs := #[.slice wD oP.length wE, .slice none 0 0, .slice none 0 0]) ?_ 2 _ rfl; refine zk ?_; refine aV (cs := #[.slice wD oP.length wE, .slice none 0 0, .slice none 0 0]) ?_ 1 _ rfl; refine zk ?_; refine aV (cs := #[.slice none 0 0, .slice none 0 0, .slice none 0 0]) ?_ 0 _ rfl; refine zk ?_; exact gT.out⟩, ⟨zB HB⟩⟩
 case round =>
  clear H'
  obtain ⟨dJ, jI, kU, rfl, HA, iU, sF, kE, fT, kF, fO, iF, gT, HB⟩ := hrel; cases gk with
  | zero => exact absurd HA.out (by simp [bN.l0])
  | succ k1 =>
   have H := HA.out; clear HA; simp only [bN.l0] at H; by_cases c24 : dJ < (dS.length : Int)
   · rw [if_pos c24] at H; have abH := decide_eq_true c24; clear c24; by_cases JB : 0 ≤ dJ
     · rw [if_pos JB] at H; have VZ := decide_eq_true JB; clear JB; by_cases c26 : dJ < (dS.length : Int)
       · rw [if_pos c26] at H; have ay6 := decide_eq_true c26; clear c26; by_cases Tx : 0 < ((bC dS dJ).length : Int)
         · rw [if_pos Tx] at H; have am4 := decide_eq_true Tx; have ay7 : decide (0 < (bC dS dJ).length) = true := decide_eq_true (by omega); clear Tx; have akh := zA H; clear H; have aeS : 0 ≤ (dJ : Int) := zo; have aeT : dJ < (dS.length : Int) := zo; obtain ⟨yB, auN, auO, e260, aeU, WN, WO⟩ := Ec (Kd.jO sF.out).2.2 dJ aeS aeT; cases e260; obtain ⟨ay8, aki, akj, abI⟩ := Kd.ZX sF.out [] dJ aeS (by first | exact aeT | exact zo | (have e_ := (Kd.jO sF.out).1; omega)); obtain ⟨asT, rfl, OT⟩ := akj; have Fz := abI 0 _ rfl; rw [Nat.add_zero, show ((Kd.slice 42 gm)).sz = 1 from rfl, Nat.mul_one] at Fz; replace Fz := Option.some.inj (Fz.symm.trans aeU); rw [Fz] at OT; have JJ := zA (show Kd.R gm 42 _ _ _ _ (bC dS dJ) from OT); clear Fz OT; clear abI aki; have y5 := zA WO; have asU := zA WN; clear WO WN; replace aeS := eq_true aeS; replace aeT := eq_true aeT; have akk : 0 ≤ (0 : Int) := (by omega); have akl : 0 < ((bC dS dJ).length : Int) := zo; obtain ⟨abJ, e261, OU, OV⟩ := eG (zC y5) 0 akk akl; cases e261; have ay9 : (0 < (bC dS dJ).length) = True := eq_true (by omega); (try rw [show ((0 : Int)).toNat = 0 from rfl] at OU); (try rw [show 0 * 2 = 0 from rfl] at OU); (try rw [Addr.add_zero'] at OU); (try rw [show ((0 : Int)).toNat = 0 from rfl] at OV); (try rw [show 0 * 2 = 0 from rfl] at OV); (try rw [Addr.add_zero'] at OV); replace akk := eq_true akk; replace akl := eq_true akl; go_upto_region 7 with (first | ((with_reducible refine aH (N := 11) rfl ?_); refine zX (N := 11) (cs := #[.int .i64 0, .int .i64 0]) (t := 42) ?_; intro fu hg w29 aG hb; have pF := zA (aG); have azb := zA (zW hg HB); have azc := zA (zW hg HB); have mZ := zA (lZ hg fO); have xK := zA (l5 hg fO); have ng := zA (lZ hg iF); have xL := zA (l5 hg iF); have ni := zA (lZ hg gT); have xM := zA (l5 hg gT); replace sF := zA (Kd.iY (Kd.zY (zS sF) fu (Nat.le_of_eq hg.symm)) hb); replace kE := zA (Kd.bf (zR kE) hb); replace fT := zA (Kd.bf (Kd.EP (zR fT) fu (Nat.le_of_eq hg.symm)) hb); replace kF := zA (Kd.iY (Kd.zY (zS kF) fu (Nat.le_of_eq hg.symm)) hb); replace JJ := zA (Kd.bf (Kd.EP (zR JJ) fu (Nat.le_of_eq hg.symm)) hb); replace fO := zA (dn fO hb); replace iF := zA (dn iF hb); replace gT := zA (dn gT hb); replace y5 := zA (Kd.bu (zC y5) hb); replace HB := zA (af (zB HB) hb); clear hb aG hg; have ant := xK.out; have anu := mZ.out; have azd := xL.out; have aze := ng.out; have ao3 := xM.out; have ao4 := ni.out; obtain ⟨_, _, _, _⟩ := iG pF))
           (try simp only [Act.put, List.setIfInBounds_toArray, List.set_cons_zero, List.set_cons_succ]); go_cut [43] (fun v43 wc => ∃ (kq : Nat) (OW : Bool), v43 = .bool OW ∧ ag (bN.j1 kq l1 BA dS (dS.length : Int) dJ OW oP jI dS ((aa (bC dS dJ) 0).f0) ((aa (bC dS dJ) 0).f1) = some (r1, r2, r3)) ∧ ag (kq ≤ k1) ∧ ag (Kd.S (Kd.slice 42 gm) 22 wc w.heap.size (fun k_ => some k_ ≠ (kU : Value).ownBlock ∧ k_ ≠ fu) (.slice (some yB) dS.length qm) dS) ∧ ag (Kd.R (Kd.int .i64) 3 wc w.heap.size (fun _ => True) (.slice wD oP.length wE) oP) ∧ ag (Kd.R gm 42 wc w.heap.size (fun k_ => k_ ≠ fu) kU jI) ∧ ag (Kd.S (Kd.slice 42 gm) 22 wc w.heap.size (fun k_ => some k_ ≠ (kU : Value).ownBlock ∧ k_ ≠ fu) (.slice (some yB) dS.length qm) dS) ∧ ag (wc.heap[tK]? = some (.cells #[.int .i64 au, (.slice aZ ah.length aW)] 24 (0, 0))) ∧ ag (wc.heap[qM]? = some (.cells #[(.slice none 0 0), (.slice none 0 0), (.slice none 0 0)] 28 (0, 0))) ∧ ag (wc.heap[j5]? = some (.cells #[(.slice wD oP.length wE), kU, (.slice (some yB) dS.length qm)] 28 (0, 0))) ∧ ag (wc.heap[fu]? = some (.cells #[.int .i64 ((aa (bC dS dJ) 0).f0), .int .i64 ((aa (bC dS dJ) 0).f1)] 42 (0, 0))) ∧ ag (Kd.C gm wc (some abJ) (bC dS dJ).length (bC dS dJ)) ∧ ag (Below w.heap.size w wc))
           case first =>
            have H := akh.out; clear akh; replace H := zE H; obtain ⟨ake, A34, H⟩ := H; (try dsimp only at H); by_cases Fa : ake = true
            · subst Fa; rw [if_pos rfl] at H; replace H := zE H; obtain ⟨aeQ, A36, H⟩ := H; (try dsimp only at H); have H' := zA H; clear H; have aaN := xK.out; have aaO := mZ.out; have ao5 := xL.out; have ao6 := ng.out; have abx := xM.out; have aby := ni.out; obtain ⟨_, _, _, _⟩ := iG pF; go_wp2_with (first | ((with_reducible refine ay (f := 77) rfl ?_); refine zG (some 35) rfl Tryd.func77 #[.int .u64 BA, .int .i64 ((aa (bC dS dJ) 0).f0)] ?_; (with_reducible refine (cO.calls BA ((aa (bC dS dJ) 0).f0) true _ A34.out).mono ?_); rintro e w' ⟨rfl, ⟨nd, rfl⟩⟩; refine ⟨_, rfl, ?_⟩) | (go_at_call 77; (with_reducible refine (cO.calls BA ((aa (bC dS dJ) 0).f1) aeQ _ A36.out).mono ?_); rintro e w' ⟨rfl, ⟨nd, rfl⟩⟩)); go_meet
              case rel => exact ⟨_, (!aeQ), zv, H', ⟨by have := iU.out; first | omega | exact Nat.le_refl _⟩, ⟨by refine sM ?_; exact Kd.dF (Kd.eB (p := ⟨fu, 1, none⟩) (Kd.eB (p := ⟨fu, 0, none⟩) (Kd.dF sF.out (fun k_ hk => (⟨hk, hk.2⟩ : _ ∧ k_ ≠ fu))) (fun _ hk => hk.2) (.int .i64 ((aa (bC dS dJ) 0).f0))) (fun _ hk => hk.2) (.int .i64 ((aa (bC dS dJ) 0).f1))) (fun _ hk => ⟨hk.1.1, hk.1.2⟩)⟩, ⟨by refine jF ?_; exact Kd.aQ (Kd.aT (p := ⟨fu, 1, none⟩) (Kd.aT (p := ⟨fu, 0, none⟩) (Kd.bJ kE.out pF.out (by decide)) (fun _ hk => hk.2) (.int .i64 ((aa (bC dS dJ) 0).f0))) (fun _ hk => hk.2) (.int .i64 ((aa (bC dS dJ) 0).f1))) (fun _ hk => trivial)⟩, ⟨by refine jF ?_; exact Kd.aQ (Kd.aT (p := ⟨fu, 1, none⟩) (Kd.aT (p := ⟨fu, 0, none⟩) (Kd.aQ fT.out (fun k_ hk => (⟨hk, hk.2⟩ : _ ∧ k_ ≠ fu))) (fun _ hk => hk.2) (.int .i64 ((aa (bC dS dJ) 0).f0))) (fun _ hk => hk.2) (.int .i64 ((aa (bC dS dJ) 0).f1))) (fun _ hk => hk.1.2)⟩, ⟨by refine sM ?_; exact Kd.dF (Kd.eB (p := ⟨fu, 1, none⟩) (Kd.eB (p := ⟨fu, 0, none⟩) (Kd.dF kF.out (fun k_ hk => (⟨hk, hk.2⟩ : _ ∧ k_ ≠ fu))) (fun _ hk => hk.2) (.int .i64 ((aa (bC dS dJ) 0).f0))) (fun _ hk => hk.2) (.int .i64 ((aa (bC dS dJ) 0).f1))) (fun _ hk => ⟨hk.1.1, hk.1.2⟩)⟩, ⟨by refine iA mZ.out ?_; refine iA mZ.out ?_; refine zk ?_; exact fO.out⟩, ⟨by refine iA ng.out ?_; refine iA ng.out ?_; refine zk ?_; exact iF.out⟩, ⟨by refine iA ni.out ?_; refine iA ni.out ?_; refine zk ?_; exact gT.out⟩, ⟨by refine zk ?_; refine aV (cs := #[.int .i64 ((aa (bC dS dJ) 0).f0), .int .i64 0]) ?_ 1 _ rfl; refine zk ?_; refine aV (cs := #[.int .i64 0, .int .i64 0]) ?_ 0 _ rfl; refine zk ?_; exact pF.out⟩, ⟨(Kd.aU (by refine jF ?_; exact (Kd.aQ (Kd.aT (p := ⟨fu, 1, none⟩) (Kd.aT (p := ⟨fu, 0, none⟩) (Kd.aQ JJ.out (fun k_ hk => (⟨hk, hk.2⟩ : _ ∧ k_ ≠ fu))) (fun _ hk => hk.2) (.int .i64 ((aa (bC dS dJ) 0).f0))) (fun _ hk => hk.2) (.int .i64 ((aa (bC dS dJ) 0).f1))) (fun _ h_ => h_.1)))).2.2⟩, ⟨zB HB⟩⟩
            · replace Fa := Bool.eq_false_iff.mpr Fa; subst Fa; rw [if_neg (show ¬ (false = true) by decide)] at H; have H' := zA H; clear H; have agL := xK.out; have agM := mZ.out; have Rm := xL.out; have Rn := ng.out; have Wq := xM.out; have Ws := ni.out; obtain ⟨_, _, _, _⟩ := iG pF; go_wp2_with (first | ((with_reducible refine ay (f := 77) rfl ?_); refine zG (some 35) rfl Tryd.func77 #[.int .u64 BA, .int .i64 ((aa (bC dS dJ) 0).f0)] ?_; (with_reducible refine (cO.calls BA ((aa (bC dS dJ) 0).f0) false _ A34.out).mono ?_); rintro e w' ⟨rfl, ⟨nd, rfl⟩⟩; refine ⟨_, rfl, ?_⟩)); go_meet
              case rel => exact ⟨_, (true), zv, H', ⟨by have := iU.out; first | omega | exact Nat.le_refl _⟩, ⟨by refine sM ?_; exact Kd.dF (Kd.eB (p := ⟨fu, 1, none⟩) (Kd.eB (p := ⟨fu, 0, none⟩) (Kd.dF sF.out (fun k_ hk => (⟨hk, hk.2⟩ : _ ∧ k_ ≠ fu))) (fun _ hk => hk.2) (.int .i64 ((aa (bC dS dJ) 0).f0))) (fun _ hk => hk.2) (.int .i64 ((aa (bC dS dJ) 0).f1))) (fun _ hk => ⟨hk.1.1, hk.1.2⟩)⟩, ⟨by refine jF ?_; exact Kd.aQ (Kd.aT (p := ⟨fu, 1, none⟩) (Kd.aT (p := ⟨fu, 0, none⟩) (Kd.bJ kE.out pF.out (by decide)) (fun _ hk => hk.2) (.int .i64 ((aa (bC dS dJ) 0).f0))) (fun _ hk => hk.2) (.int .i64 ((aa (bC dS dJ) 0).f1))) (fun _ hk => trivial)⟩, ⟨by refine jF ?_; exact Kd.aQ (Kd.aT (p := ⟨fu, 1, none⟩) (Kd.aT (p := ⟨fu, 0, none⟩) (Kd.aQ fT.out (fun k_ hk => (⟨hk, hk.2⟩ : _ ∧ k_ ≠ fu))) (fun _ hk => hk.2) (.int .i64 ((aa (bC dS dJ) 0).f0))) (fun _ hk => hk.2) (.int .i64 ((aa (bC dS dJ) 0).f1))) (fun _ hk => hk.1.2)⟩, ⟨by refine sM ?_; exact Kd.dF (Kd.eB (p := ⟨fu, 1, none⟩) (Kd.eB (p := ⟨fu, 0, none⟩) (Kd.dF kF.out (fun k_ hk => (⟨hk, hk.2⟩ : _ ∧ k_ ≠ fu))) (fun _ hk => hk.2) (.int .i64 ((aa (bC dS dJ) 0).f0))) (fun _ hk => hk.2) (.int .i64 ((aa (bC dS dJ) 0).f1))) (fun _ hk => ⟨hk.1.1, hk.1.2⟩)⟩, ⟨by refine iA mZ.out ?_; refine iA mZ.out ?_; refine zk ?_; exact fO.out⟩, ⟨by refine iA ng.out ?_; refine iA ng.out ?_; refine zk ?_; exact iF.out⟩, ⟨by refine iA ni.out ?_; refine iA ni.out ?_; refine zk ?_; exact gT.out⟩, ⟨by refine zk ?_; refine aV (cs := #[.int .i64 ((aa (bC dS dJ) 0).f0), .int .i64 0]) ?_ 1 _ rfl; refine zk ?_; refine aV (cs := #[.int .i64 0, .int .i64 0]) ?_ 0 _ rfl; refine zk ?_; exact pF.out⟩, ⟨(Kd.aU (by refine jF ?_; exact (Kd.aQ (Kd.aT (p := ⟨fu, 1, none⟩) (Kd.aT (p := ⟨fu, 0, none⟩) (Kd.aQ JJ.out (fun k_ hk => (⟨hk, hk.2⟩ : _ ∧ k_ ≠ fu))) (fun _ hk => hk.2) (.int .i64 ((aa (bC dS dJ) 0).f0))) (fun _ hk => hk.2) (.int .i64 ((aa (bC dS dJ) 0).f1))) (fun _ h_ => h_.1)))).2.2⟩, ⟨zB HB⟩⟩
           case rest =>
            clear akh
            obtain ⟨kq, OW, rfl, HA, Zb, sF, kE, fT, kF, fO, iF, gT, pF, y5, HB⟩ := hcut; cases kq with
            | zero => exact absurd HA.out (by simp [bN.j1])
            | succ Zc =>
             have H := HA.out; clear HA; simp only [bN.j1] at H; by_cases Qa : OW = true
             · subst Qa; rw [if_pos rfl] at H; replace H := zE H; obtain ⟨akf, A46, H⟩ := H; (try dsimp only at H); by_cases KX : akf = true
               · subst KX; rw [if_pos rfl] at H; by_cases ZG : 0 < (l1.length : Int)
                 · rw [if_pos ZG] at H; have agN := decide_eq_true ZG; have agO : decide (0 < l1.length) = true := decide_eq_true (by omega); clear ZG; by_cases c49 : jI.length < 8796093022208
                   · rw [if_pos c49] at H; have abL := zA c49; clear c49; obtain ⟨UC, Ro⟩ : ∃ y_ : List (aD), y_ = (jI ++ [(⟨rd l1 0, ((aa (bC dS dJ) 0).f0)⟩ : aD)]) := ⟨_, rfl⟩; replace H : (bN.l0 Zc l1 BA dS (dS.length : Int) (wrap64 (dJ + 1)) oP UC dS) = some (r1, r2, r3) := by first | (rw [Ro]; with_reducible exact H) | (have iW := (Option.bind_some _ _).symm.trans H; rw [Ro]; with_reducible exact iW) | (have iW := (Option.bind_some _ _).symm.trans H; with_reducible exact iW) | with_reducible exact H | (rw [Ro]; exact H) | exact H
                     have ao7 := zA Ro; clear Ro; have H' := zA H; clear H; have azf := xK.out; have azg := mZ.out; have af6 := xL.out; have af7 := ng.out; have aaP := xM.out; have aaQ := ni.out; obtain ⟨_, _, _, _⟩ := iG pF; go_wp2_with (first | ((with_reducible refine ay (f := 77) rfl ?_); refine zG (some 49) rfl Tryd.func77 #[.int .u64 BA, .int .i64 ((aa (bC dS dJ) 0).f1)] ?_; (with_reducible refine (cO.calls BA ((aa (bC dS dJ) 0).f1) true _ A46.out).mono ?_); rintro e w' ⟨rfl, ⟨nd, rfl⟩⟩; refine ⟨_, rfl, ?_⟩; (try (rw [sU wc]; generalize vG : World.drewN wc _ = wc; replace sF : ag (Kd.S (Kd.slice 42 gm) 22 wc w.heap.size (fun k_ => some k_ ≠ (kU : Value).ownBlock ∧ k_ ≠ fu) (.slice (some yB) dS.length qm) dS) := ⟨by rw [← vG]; exact (zS sF)⟩; replace kE : ag (Kd.R (Kd.int .i64) 3 wc w.heap.size (fun _ => True) (.slice wD oP.length wE) oP) := ⟨by rw [← vG]; exact (zR kE)⟩; replace fT : ag (Kd.R gm 42 wc w.heap.size (fun k_ => k_ ≠ fu) kU jI) := ⟨by rw [← vG]; exact (zR fT)⟩; replace kF : ag (Kd.S (Kd.slice 42 gm) 22 wc w.heap.size (fun k_ => some k_ ≠ (kU : Value).ownBlock ∧ k_ ≠ fu) (.slice (some yB) dS.length qm) dS) := ⟨by rw [← vG]; exact (zS kF)⟩; replace fO : ag (wc.heap[tK]? = some (.cells #[.int .i64 au, .slice aZ ah.length aW] 24 (0, 0))) := ⟨by rw [← vG]; exact (zK fO)⟩; replace iF : ag (wc.heap[qM]? = some (.cells #[.slice none 0 0, .slice none 0 0, .slice none 0 0] 28 (0, 0))) := ⟨by rw [← vG]; exact (zK iF)⟩; replace gT : ag (wc.heap[j5]? = some (.cells #[.slice wD oP.length wE, kU, .slice (some yB) dS.length qm] 28 (0, 0))) := ⟨by rw [← vG]; exact (zK gT)⟩; replace pF : ag (wc.heap[fu]? = some (.cells #[.int .i64 ((aa (bC dS dJ) 0).f0), .int .i64 ((aa (bC dS dJ) 0).f1)] 42 (0, 0))) := ⟨by rw [← vG]; exact (zK pF)⟩; replace HB : ag (Below w.heap.size w wc) := ⟨by rw [← vG]; exact (zB HB)⟩; replace y5 : ag (Kd.C gm wc (some abJ) (bC dS dJ).length (bC dS dJ)) := ⟨by rw [← vG]; exact (zC y5)⟩; clear vG)); obtain ⟨_, _, _, _⟩ := iG pF; have akm : 0 ≤ (0 : Int) := (by omega); have akn : 0 < (l1.length : Int) := zo; obtain ⟨azh, auP, JK⟩ := Kd.eP HR1.out 0 akm akn; cases auP; have azi : (0 < l1.length) = True := eq_true (by omega); (try rw [show ((0 : Int)).toNat = 0 from rfl] at JK); (try rw [Addr.add_zero'] at JK); replace JK := (zx HB JK :); replace akm := eq_true akm; replace akn := eq_true akn; have agu := mX.out; have agv := iB.out; have aa7 := mY.out; have aa8 := jU.out; obtain ⟨_, _, _, _, _, _⟩ := nG gT) | ((with_reducible refine fZ (b := .append) (xs := #[.tmp 58, .tmp 60]) rfl ?_); at_builtin; refine Kd.oz gm (w0 := w) w.heap.size rfl (.tmp 58) (.tmp 60) 22 42 (.agg #[(.int .i64 0), (.int .i64 0)]) 16 rfl Tryd.underlying22 nA rfl (by decide) (by omega) kU jI (⟨rd l1 0, ((aa (bC dS dJ) 0).f0)⟩ : aD) [.int .i64 (rd l1 0), .int .i64 ((aa (bC dS dJ) 0).f0)] (fun k_ => k_ ≠ fu) (fun _ => False) rfl (by first | (go_simp; done) | (go_simp; rfl)) ?aP (fun _ hk => hk.elim) ?aF ?aO ?aB ?aS ?aL ?_; (case aP => exact mR _ _ _ (⟨rd l1 0, ((aa (bC dS dJ) 0).f0)⟩ : aD)); (case aB => exact (zB HB)); (case aF => exact (fun k_ hk => Kd.ug (g := fu) (o := .cells #[.int .i64 (rd l1 0), .int .i64 ((aa (bC dS dJ) 0).f0)] 42 (0, 0)) (by refine zk ?_; refine aV (cs := #[.int .i64 (rd l1 0), .int .i64 ((aa (bC dS dJ) 0).f1)]) ?_ 1 _ rfl; refine zk ?_; refine aV (cs := #[.int .i64 ((aa (bC dS dJ) 0).f0), .int .i64 ((aa (bC dS dJ) 0).f1)]) ?_ 0 _ rfl; refine zk ?_; exact pF.out) k_ hk)); (case aO => exact (by refine jF ?_; exact Kd.aQ (Kd.aT (p := ⟨fu, 1, none⟩) (Kd.aT (p := ⟨fu, 0, none⟩) (Kd.aQ fT.out (fun k_ hk => (⟨hk, hk⟩ : _ ∧ k_ ≠ fu))) (fun _ hk => hk.2) (.int .i64 (rd l1 0))) (fun _ hk => hk.2) (.int .i64 ((aa (bC dS dJ) 0).f0))) (fun _ hk => hk.1))); (case aS => exact (aJ (zB HB))); (case aL => have := abL.out; omega); intro aB8 w58 ho hb hg hat; rw [← ao7.out] at ho; have agP := zA (ho); replace sF := zA (Kd.wT (ok := (fun k_ => k_ ≠ fu)) (by refine sM ?_; exact Kd.dF (Kd.eB (p := ⟨fu, 1, none⟩) (Kd.eB (p := ⟨fu, 0, none⟩) (Kd.dF sF.out (fun k_ hk => (⟨hk, hk.2⟩ : _ ∧ k_ ≠ fu))) (fun _ hk => hk.2) (.int .i64 (rd l1 0))) (fun _ hk => hk.2) (.int .i64 ((aa (bC dS dJ) 0).f0))) (fun _ hk => ⟨hk.1.2, hk.1.1⟩)) hg hat); replace kE := zA (Kd.oH (by refine jF ?_; exact (Kd.aQ (Kd.aT (p := ⟨fu, 1, none⟩) (Kd.aT (p := ⟨fu, 0, none⟩) (Kd.bJ kE.out pF.out (by decide)) (fun _ hk => hk.2) (.int .i64 (rd l1 0))) (fun _ hk => hk.2) (.int .i64 ((aa (bC dS dJ) 0).f0))) (fun _ h_ => h_.1))) (Kd.nM (by refine jF ?_; exact (Kd.aQ (Kd.aT (p := ⟨fu, 1, none⟩) (Kd.aT (p := ⟨fu, 0, none⟩) (Kd.aQ fT.out (fun k_ hk => (⟨hk, hk⟩ : _ ∧ k_ ≠ fu))) (fun _ hk => hk.2) (.int .i64 (rd l1 0))) (fun _ hk => hk.2) (.int .i64 ((aa (bC dS dJ) 0).f0))) (fun _ h_ => h_.1)))) (by decide) hg); replace kF := zA (Kd.wT (ok := (fun k_ => k_ ≠ fu)) (by refine sM ?_; exact Kd.dF (Kd.eB (p := ⟨fu, 1, none⟩) (Kd.eB (p := ⟨fu, 0, none⟩) (Kd.dF kF.out (fun k_ hk => (⟨hk, hk.2⟩ : _ ∧ k_ ≠ fu))) (fun _ hk => hk.2) (.int .i64 (rd l1 0))) (fun _ hk => hk.2) (.int .i64 ((aa (bC dS dJ) 0).f0))) (fun _ hk => ⟨hk.1.2, hk.1.1⟩)) hg hat); replace fO := zA (bZ (g := tK) (o := .cells #[.int .i64 au, .slice aZ ah.length aW] 24 (0, 0)) (by refine iA mZ.out ?_; refine iA mZ.out ?_; refine zk ?_; exact fO.out) hg (Kd.oK fT.out fO.out (by decide))); replace iF := zA (bZ (g := qM) (o := .cells #[.slice none 0 0, .slice none 0 0, .slice none 0 0] 28 (0, 0)) (by refine iA ng.out ?_; refine iA ng.out ?_; refine zk ?_; exact iF.out) hg (Kd.oK fT.out iF.out (by decide))); replace gT := zA (bZ (g := j5) (o := .cells #[.slice wD oP.length wE, kU, .slice (some yB) dS.length qm] 28 (0, 0)) (by refine iA ni.out ?_; refine iA ni.out ?_; refine zk ?_; exact gT.out) hg (Kd.oK fT.out gT.out (by decide))); replace pF := zA (bZ (g := fu) (o := .cells #[.int .i64 (rd l1 0), .int .i64 ((aa (bC dS dJ) 0).f0)] 42 (0, 0)) (by refine zk ?_; refine aV (cs := #[.int .i64 (rd l1 0), .int .i64 ((aa (bC dS dJ) 0).f1)]) ?_ 1 _ rfl; refine zk ?_; refine aV (cs := #[.int .i64 ((aa (bC dS dJ) 0).f0), .int .i64 ((aa (bC dS dJ) 0).f1)]) ?_ 0 _ rfl; refine zk ?_; exact pF.out) hg (Kd.Bh fT.out (fun _ hk => hk))); replace HB := zA (hb); clear fT; clear ho hb hg hat; obtain ⟨tq, sG, ako⟩ := Kd.bD agP.out; subst ako; obtain ⟨_, _, _, _, _, _⟩ := nG gT)); go_roundg Zc
                     case measure => have := iU.out; have := Zb.out; omega
                     case rel => exact ⟨(wrap64 (dJ + 1)), (UC), (.slice tq UC.length sG), zv, H', ⟨by have := iU.out; have := Zb.out; omega⟩, ⟨by refine sM ?_; exact Kd.dF (Kd.eB (p := ⟨j5, 1, none⟩) (Kd.jY sF.out gT.out (by decide)) (fun _ hk => hk.2) (.slice tq UC.length sG)) (fun _ hk => hk.1.2)⟩, ⟨by refine jF ?_; exact Kd.aQ (Kd.aT (p := ⟨j5, 1, none⟩) (Kd.bJ kE.out gT.out (by decide)) (fun _ hk => hk.2) (.slice tq UC.length sG)) (fun _ hk => trivial)⟩, ⟨by refine jF ?_; exact Kd.aQ (Kd.aT (p := ⟨j5, 1, none⟩) (Kd.bJ agP.out gT.out (by decide)) (fun _ hk => hk.2) (.slice tq UC.length sG)) (fun _ hk => trivial)⟩, ⟨by refine sM ?_; exact Kd.dF (Kd.eB (p := ⟨j5, 1, none⟩) (Kd.jY kF.out gT.out (by decide)) (fun _ hk => hk.2) (.slice tq UC.length sG)) (fun _ hk => hk.1.2)⟩, ⟨by refine iA iB.out ?_; refine zk ?_; exact fO.out⟩, ⟨by refine iA jU.out ?_; refine zk ?_; exact iF.out⟩, ⟨by refine zk ?_; refine aV (cs := #[.slice wD oP.length wE, kU, .slice (some yB) dS.length qm]) ?_ 1 _ rfl; refine zk ?_; exact gT.out⟩, ⟨zB HB⟩⟩
                   · rw [if_neg c49] at H; exact absurd H (by simp)
                 · rw [if_neg ZG] at H; exact absurd H (by simp)
               · replace KX := Bool.eq_false_iff.mpr KX; subst KX; rw [if_neg (show ¬ (false = true) by decide)] at H; by_cases c61 : 0 < (l1.length : Int)
                 · rw [if_pos c61] at H; have aoG := decide_eq_true c61; have azj : decide (0 < l1.length) = true := decide_eq_true (by omega); clear c61; by_cases c62 : jI.length < 8796093022208
                   · rw [if_pos c62] at H; have abC := zA c62; clear c62; obtain ⟨UD, Rp⟩ : ∃ y_ : List (aD), y_ = (jI ++ [(⟨rd l1 0, ((aa (bC dS dJ) 0).f1)⟩ : aD)]) := ⟨_, rfl⟩; replace H : (bN.l0 Zc l1 BA dS (dS.length : Int) (wrap64 (dJ + 1)) oP UD dS) = some (r1, r2, r3) := by first | (rw [Rp]; with_reducible exact H) | (have iW := (Option.bind_some _ _).symm.trans H; rw [Rp]; with_reducible exact iW) | (have iW := (Option.bind_some _ _).symm.trans H; with_reducible exact iW) | with_reducible exact H | (rw [Rp]; exact H) | exact H
                     have ao8 := zA Rp; clear Rp; have H' := zA H; clear H; have azk := xK.out; have azl := mZ.out; have ao9 := xL.out; have apa := ng.out; have apb := xM.out; have apc := ni.out; obtain ⟨_, _, _, _⟩ := iG pF; go_wp2_with (first | ((with_reducible refine ay (f := 77) rfl ?_); refine zG (some 49) rfl Tryd.func77 #[.int .u64 BA, .int .i64 ((aa (bC dS dJ) 0).f1)] ?_; (with_reducible refine (cO.calls BA ((aa (bC dS dJ) 0).f1) false _ A46.out).mono ?_); rintro e w' ⟨rfl, ⟨nd, rfl⟩⟩; refine ⟨_, rfl, ?_⟩; (try (rw [sU wc]; generalize vG : World.drewN wc _ = wc; replace sF : ag (Kd.S (Kd.slice 42 gm) 22 wc w.heap.size (fun k_ => some k_ ≠ (kU : Value).ownBlock ∧ k_ ≠ fu) (.slice (some yB) dS.length qm) dS) := ⟨by rw [← vG]; exact (zS sF)⟩; replace kE : ag (Kd.R (Kd.int .i64) 3 wc w.heap.size (fun _ => True) (.slice wD oP.length wE) oP) := ⟨by rw [← vG]; exact (zR kE)⟩; replace fT : ag (Kd.R gm 42 wc w.heap.size (fun k_ => k_ ≠ fu) kU jI) := ⟨by rw [← vG]; exact (zR fT)⟩; replace kF : ag (Kd.S (Kd.slice 42 gm) 22 wc w.heap.size (fun k_ => some k_ ≠ (kU : Value).ownBlock ∧ k_ ≠ fu) (.slice (some yB) dS.length qm) dS) := ⟨by rw [← vG]; exact (zS kF)⟩; replace fO : ag (wc.heap[tK]? = some (.cells #[.int .i64 au, .slice aZ ah.length aW] 24 (0, 0))) := ⟨by rw [← vG]; exact (zK fO)⟩; replace iF : ag (wc.heap[qM]? = some (.cells #[.slice none 0 0, .slice none 0 0, .slice none 0 0] 28 (0, 0))) := ⟨by rw [← vG]; exact (zK iF)⟩; replace gT : ag (wc.heap[j5]? = some (.cells #[.slice wD oP.length wE, kU, .slice (some yB) dS.length qm] 28 (0, 0))) := ⟨by rw [← vG]; exact (zK gT)⟩; replace pF : ag (wc.heap[fu]? = some (.cells #[.int .i64 ((aa (bC dS dJ) 0).f0), .int .i64 ((aa (bC dS dJ) 0).f1)] 42 (0, 0))) := ⟨by rw [← vG]; exact (zK pF)⟩; replace HB : ag (Below w.heap.size w wc) := ⟨by rw [← vG]; exact (zB HB)⟩; replace y5 : ag (Kd.C gm wc (some abJ) (bC dS dJ).length (bC dS dJ)) := ⟨by rw [← vG]; exact (zC y5)⟩; clear vG)); have akp : 0 ≤ (0 : Int) := (by omega); have akq : 0 < (l1.length : Int) := zo; obtain ⟨azm, e270, JL⟩ := Kd.eP HR1.out 0 akp akq; cases e270; have azn : (0 < l1.length) = True := eq_true (by omega); (try rw [show ((0 : Int)).toNat = 0 from rfl] at JL); (try rw [Addr.add_zero'] at JL); replace JL := (zx HB JL :); replace akp := eq_true akp; replace akq := eq_true akq; obtain ⟨_, _, _, _⟩ := iG pF; have agD := mX.out; have agE := iB.out; have azo := mY.out; have azp := jU.out; obtain ⟨_, _, _, _, _, _⟩ := nG gT) | ((with_reducible refine fZ (b := .append) (xs := #[.tmp 58, .tmp 60]) rfl ?_); at_builtin; refine Kd.oz gm (w0 := w) w.heap.size rfl (.tmp 58) (.tmp 60) 22 42 (.agg #[(.int .i64 0), (.int .i64 0)]) 16 rfl Tryd.underlying22 nA rfl (by decide) (by omega) kU jI (⟨rd l1 0, ((aa (bC dS dJ) 0).f1)⟩ : aD) [.int .i64 (rd l1 0), .int .i64 ((aa (bC dS dJ) 0).f1)] (fun k_ => k_ ≠ fu) (fun _ => False) rfl (by first | (go_simp; done) | (go_simp; rfl)) ?aP (fun _ hk => hk.elim) ?aF ?aO ?aB ?aS ?aL ?_; (case aP => exact mR _ _ _ (⟨rd l1 0, ((aa (bC dS dJ) 0).f1)⟩ : aD)); (case aB => exact (zB HB)); (case aF => exact (fun k_ hk => Kd.ug (g := fu) (o := .cells #[.int .i64 (rd l1 0), .int .i64 ((aa (bC dS dJ) 0).f1)] 42 (0, 0)) (by refine zk ?_; refine aV (cs := #[.int .i64 (rd l1 0), .int .i64 ((aa (bC dS dJ) 0).f1)]) ?_ 1 _ rfl; refine zk ?_; refine aV (cs := #[.int .i64 ((aa (bC dS dJ) 0).f0), .int .i64 ((aa (bC dS dJ) 0).f1)]) ?_ 0 _ rfl; refine zk ?_; exact pF.out) k_ hk)); (case aO => exact (by refine jF ?_; exact Kd.aQ (Kd.aT (p := ⟨fu, 1, none⟩) (Kd.aT (p := ⟨fu, 0, none⟩) (Kd.aQ fT.out (fun k_ hk => (⟨hk, hk⟩ : _ ∧ k_ ≠ fu))) (fun _ hk => hk.2) (.int .i64 (rd l1 0))) (fun _ hk => hk.2) (.int .i64 ((aa (bC dS dJ) 0).f1))) (fun _ hk => hk.1))); (case aS => exact (aJ (zB HB))); (case aL => have := abC.out; omega); intro aB9 w71 ho hb hg hat; rw [← ao8.out] at ho; have agQ := zA (ho); replace sF := zA (Kd.wT (ok := (fun k_ => k_ ≠ fu)) (by refine sM ?_; exact Kd.dF (Kd.eB (p := ⟨fu, 1, none⟩) (Kd.eB (p := ⟨fu, 0, none⟩) (Kd.dF sF.out (fun k_ hk => (⟨hk, hk.2⟩ : _ ∧ k_ ≠ fu))) (fun _ hk => hk.2) (.int .i64 (rd l1 0))) (fun _ hk => hk.2) (.int .i64 ((aa (bC dS dJ) 0).f1))) (fun _ hk => ⟨hk.1.2, hk.1.1⟩)) hg hat); replace kE := zA (Kd.oH (by refine jF ?_; exact (Kd.aQ (Kd.aT (p := ⟨fu, 1, none⟩) (Kd.aT (p := ⟨fu, 0, none⟩) (Kd.bJ kE.out pF.out (by decide)) (fun _ hk => hk.2) (.int .i64 (rd l1 0))) (fun _ hk => hk.2) (.int .i64 ((aa (bC dS dJ) 0).f1))) (fun _ h_ => h_.1))) (Kd.nM (by refine jF ?_; exact (Kd.aQ (Kd.aT (p := ⟨fu, 1, none⟩) (Kd.aT (p := ⟨fu, 0, none⟩) (Kd.aQ fT.out (fun k_ hk => (⟨hk, hk⟩ : _ ∧ k_ ≠ fu))) (fun _ hk => hk.2) (.int .i64 (rd l1 0))) (fun _ hk => hk.2) (.int .i64 ((aa (bC dS dJ) 0).f1))) (fun _ h_ => h_.1)))) (by decide) hg); replace kF := zA (Kd.wT (ok := (fun k_ => k_ ≠ fu)) (by refine sM ?_; exact Kd.dF (Kd.eB (p := ⟨fu, 1, none⟩) (Kd.eB (p := ⟨fu, 0, none⟩) (Kd.dF kF.out (fun k_ hk => (⟨hk, hk.2⟩ : _ ∧ k_ ≠ fu))) (fun _ hk => hk.2) (.int .i64 (rd l1 0))) (fun _ hk => hk.2) (.int .i64 ((aa (bC dS dJ) 0).f1))) (fun _ hk => ⟨hk.1.2, hk.1.1⟩)) hg hat); replace fO := zA (bZ (g := tK) (o := .cells #[.int .i64 au, .slice aZ ah.length aW] 24 (0, 0)) (by refine iA mZ.out ?_; refine iA mZ.out ?_; refine zk ?_; exact fO.out) hg (Kd.oK fT.out fO.out (by decide))); replace iF := zA (bZ (g := qM) (o := .cells #[.slice none 0 0, .slice none 0 0, .slice none 0 0] 28 (0, 0)) (by refine iA ng.out ?_; refine iA ng.out ?_; refine zk ?_; exact iF.out) hg (Kd.oK fT.out iF.out (by decide))); replace gT := zA (bZ (g := j5) (o := .cells #[.slice wD oP.length wE, kU, .slice (some yB) dS.length qm] 28 (0, 0)) (by refine iA ni.out ?_; refine iA ni.out ?_; refine zk ?_; exact gT.out) hg (Kd.oK fT.out gT.out (by decide))); replace pF := zA (bZ (g := fu) (o := .cells #[.int .i64 (rd l1 0), .int .i64 ((aa (bC dS dJ) 0).f1)] 42 (0, 0)) (by refine zk ?_; refine aV (cs := #[.int .i64 (rd l1 0), .int .i64 ((aa (bC dS dJ) 0).f1)]) ?_ 1 _ rfl; refine zk ?_; refine aV (cs := #[.int .i64 ((aa (bC dS dJ) 0).f0), .int .i64 ((aa (bC dS dJ) 0).f1)]) ?_ 0 _ rfl; refine zk ?_; exact pF.out) hg (Kd.Bh fT.out (fun _ hk => hk))); replace HB := zA (hb); clear fT; clear ho hb hg hat; obtain ⟨Zd, Ze, akr⟩ := Kd.bD agQ.out; subst akr; obtain ⟨_, _, _, _, _, _⟩ := nG gT)); go_roundg Zc
                     case measure => have := iU.out; have := Zb.out; omega
                     case rel => exact ⟨(wrap64 (dJ + 1)), (UD), (.slice Zd UD.length Ze), zv, H', ⟨by have := iU.out; have := Zb.out; omega⟩, ⟨by refine sM ?_; exact Kd.dF (Kd.eB (p := ⟨j5, 1, none⟩) (Kd.jY sF.out gT.out (by decide)) (fun _ hk => hk.2) (.slice Zd UD.length Ze)) (fun _ hk => hk.1.2)⟩, ⟨by refine jF ?_; exact Kd.aQ (Kd.aT (p := ⟨j5, 1, none⟩) (Kd.bJ kE.out gT.out (by decide)) (fun _ hk => hk.2) (.slice Zd UD.length Ze)) (fun _ hk => trivial)⟩, ⟨by refine jF ?_; exact Kd.aQ (Kd.aT (p := ⟨j5, 1, none⟩) (Kd.bJ agQ.out gT.out (by decide)) (fun _ hk => hk.2) (.slice Zd UD.length Ze)) (fun _ hk => trivial)⟩, ⟨by refine sM ?_; exact Kd.dF (Kd.eB (p := ⟨j5, 1, none⟩) (Kd.jY kF.out gT.out (by decide)) (fun _ hk => hk.2) (.slice Zd UD.length Ze)) (fun _ hk => hk.1.2)⟩, ⟨by refine iA iB.out ?_; refine zk ?_; exact fO.out⟩, ⟨by refine iA jU.out ?_; refine zk ?_; exact iF.out⟩, ⟨by refine zk ?_; refine aV (cs := #[.slice wD oP.length wE, kU, .slice (some yB) dS.length qm]) ?_ 1 _ rfl; refine zk ?_; exact gT.out⟩, ⟨zB HB⟩⟩
                   · rw [if_neg c62] at H; exact absurd H (by simp)
                 · rw [if_neg c61] at H; exact absurd H (by simp)
             · replace Qa := Bool.eq_false_iff.mpr Qa; subst Qa; rw [if_neg (show ¬ (false = true) by decide)] at H; by_cases c74 : jI.length < 8796093022208
               · rw [if_pos c74] at H; have apd := zA c74; clear c74; obtain ⟨UE, Rq⟩ : ∃ y_ : List (aD), y_ = (jI ++ [(⟨((aa (bC dS dJ) 0).f0), ((aa (bC dS dJ) 0).f1)⟩ : aD)]) := ⟨_, rfl⟩; replace H : (bN.l0 Zc l1 BA dS (dS.length : Int) (wrap64 (dJ + 1)) oP UE dS) = some (r1, r2, r3) := by first | (rw [Rq]; with_reducible exact H) | (have iW := (Option.bind_some _ _).symm.trans H; rw [Rq]; with_reducible exact iW) | (have iW := (Option.bind_some _ _).symm.trans H; with_reducible exact iW) | with_reducible exact H | (rw [Rq]; exact H) | exact H
                 have ape := zA Rq; clear Rq; have H' := zA H; clear H; have apf := mX.out; have apg := iB.out; have aph := mY.out; have api := jU.out; have apj := ni.out; have apk := xM.out; obtain ⟨_, _, _, _, _, _⟩ := nG gT; have azr := xK.out; have azs := mZ.out; have azt := xL.out; have azu := ng.out; obtain ⟨_, _, _, _⟩ := iG pF; go_wp2_with (first | ((with_reducible refine fZ (b := .append) (xs := #[.tmp 58, .tmp 60]) rfl ?_); at_builtin; refine Kd.oz gm (w0 := w) w.heap.size rfl (.tmp 58) (.tmp 60) 22 42 (.agg #[(.int .i64 0), (.int .i64 0)]) 16 rfl Tryd.underlying22 nA rfl (by decide) (by omega) kU jI (⟨((aa (bC dS dJ) 0).f0), ((aa (bC dS dJ) 0).f1)⟩ : aD) [.int .i64 ((aa (bC dS dJ) 0).f0), .int .i64 ((aa (bC dS dJ) 0).f1)] (fun k_ => k_ ≠ fu) (fun _ => False) rfl rfl ?aP (fun _ hk => hk.elim) ?aF ?aO ?aB ?aS ?aL ?_; (case aP => exact mR _ _ _ (⟨((aa (bC dS dJ) 0).f0), ((aa (bC dS dJ) 0).f1)⟩ : aD)); (case aB => exact (zB HB)); (case aF => exact (fun k_ hk => Kd.ug (g := fu) (o := .cells #[.int .i64 ((aa (bC dS dJ) 0).f0), .int .i64 ((aa (bC dS dJ) 0).f1)] 42 (0, 0)) (zK pF) k_ hk)); (case aO => exact (zR fT)); (case aS => exact (aJ (zB HB))); (case aL => have := apd.out; omega); intro aCa w82 ho hb hg hat; rw [← ape.out] at ho; have agR := zA (ho); replace sF := zA (Kd.wT (ok := (fun k_ => k_ ≠ fu)) (by refine sM ?_; exact Kd.dF sF.out (fun _ hk => ⟨hk.2, hk.1⟩)) hg hat); replace kE := zA (Kd.oH (zR kE) (Kd.nM (zR fT)) (by decide) hg); replace kF := zA (Kd.wT (ok := (fun k_ => k_ ≠ fu)) (by refine sM ?_; exact Kd.dF kF.out (fun _ hk => ⟨hk.2, hk.1⟩)) hg hat); replace fO := zA (bZ (g := tK) (o := .cells #[.int .i64 au, .slice aZ ah.length aW] 24 (0, 0)) (zK fO) hg (Kd.oK fT.out fO.out (by decide))); replace iF := zA (bZ (g := qM) (o := .cells #[.slice none 0 0, .slice none 0 0, .slice none 0 0] 28 (0, 0)) (zK iF) hg (Kd.oK fT.out iF.out (by decide))); replace gT := zA (bZ (g := j5) (o := .cells #[.slice wD oP.length wE, kU, .slice (some yB) dS.length qm] 28 (0, 0)) (zK gT) hg (Kd.oK fT.out gT.out (by decide))); replace pF := zA (bZ (g := fu) (o := .cells #[.int .i64 ((aa (bC dS dJ) 0).f0), .int .i64 ((aa (bC dS dJ) 0).f1)] 42 (0, 0)) (zK pF) hg (Kd.Bh fT.out (fun _ hk => hk))); replace HB := zA (hb); clear fT; clear ho hb hg hat; obtain ⟨abM, abN, auR⟩ := Kd.bD agR.out; subst auR; obtain ⟨_, _, _, _, _, _⟩ := nG gT)); go_roundg Zc
                 case measure => have := iU.out; have := Zb.out; omega
                 case rel => exact ⟨(wrap64 (dJ + 1)), (UE), (.slice abM UE.length abN), zv, H', ⟨by have := iU.out; have := Zb.out; omega⟩, ⟨by refine sM ?_; exact Kd.dF (Kd.eB (p := ⟨j5, 1, none⟩) (Kd.jY sF.out gT.out (by decide)) (fun _ hk => hk.2) (.slice abM UE.length abN)) (fun _ hk => hk.1.2)⟩, ⟨by refine jF ?_; exact Kd.aQ (Kd.aT (p := ⟨j5, 1, none⟩) (Kd.bJ kE.out gT.out (by decide)) (fun _ hk => hk.2) (.slice abM UE.length abN)) (fun _ hk => trivial)⟩, ⟨by refine jF ?_; exact Kd.aQ (Kd.aT (p := ⟨j5, 1, none⟩) (Kd.bJ agR.out gT.out (by decide)) (fun _ hk => hk.2) (.slice abM UE.length abN)) (fun _ hk => trivial)⟩, ⟨by refine sM ?_; exact Kd.dF (Kd.eB (p := ⟨j5, 1, none⟩) (Kd.jY kF.out gT.out (by decide)) (fun _ hk => hk.2) (.slice abM UE.length abN)) (fun _ hk => hk.1.2)⟩, ⟨by refine iA iB.out ?_; refine zk ?_; exact fO.out⟩, ⟨by refine iA jU.out ?_; refine zk ?_; exact iF.out⟩, ⟨by refine zk ?_; refine aV (cs := #[.slice wD oP.length wE, kU, .slice (some yB) dS.length qm]) ?_ 1 _ rfl; refine zk ?_; exact gT.out⟩, ⟨zB HB⟩⟩
               · rw [if_neg c74] at H; exact absurd H (by simp)
         · rw [if_neg Tx] at H; exact absurd H (by simp)
       · rw [if_neg c26] at H; exact absurd H (by simp)
     · rw [if_neg JB] at H; exact absurd H (by simp)
   · rw [if_neg c24] at H; have abH := decide_eq_false c24; clear c24; simp only [Option.some.injEq, Prod.mk.injEq] at H; obtain ⟨rfl, rfl, rfl⟩ := H; have azv := mX.out; have azw := iB.out; have apl := mY.out; have apm := jU.out; obtain ⟨_, _, _, _, _, _⟩ := nG gT; have azx := Za.out; have azy := Y9.out; obtain ⟨_, _, _, _, _, _⟩ := nG iF; obtain ⟨Cw, BB, abO⟩ := Kd.bD fT.out; subst abO; go_wp2; refine bodyPost_ret (results_cell_row rfl _ _ qM 28 #[.slice wD oP.length wE, .slice Cw jI.length BB, .slice xe dS.length qm] (0, 0) _ rfl (by refine zk ?_; refine aV (cs := #[.slice wD oP.length wE, .slice Cw jI.length BB, .slice none 0 0]) ?_ 2 _ rfl; refine zk ?_; refine aV (cs := #[.slice wD oP.length wE, .slice none 0 0, .slice none 0 0]) ?_ 1 _ rfl; refine zk ?_; refine aV (cs := #[.slice none 0 0, .slice none 0 0, .slice none 0 0]) ?_ 0 _ rfl; refine zk ?_; exact iF.out) Tryd.underlying28 rfl (by kernel_rfl)) rfl ?_; exact ⟨_, _, _, ze, by refine jF ?_; exact Kd.aQ (Kd.aT (p := ⟨qM, 2, none⟩) (Kd.aT (p := ⟨qM, 1, none⟩) (Kd.aT (p := ⟨qM, 0, none⟩) (Kd.bJ kE.out iF.out (by decide)) (fun _ hk => hk.2) (.slice wD oP.length wE)) (fun _ hk => hk.2) (.slice Cw jI.length BB)) (fun _ hk => hk.2) (.slice xe dS.length qm)) (fun _ hk => trivial), by refine jF ?_; exact Kd.aQ (Kd.aT (p := ⟨qM, 2, none⟩) (Kd.aT (p := ⟨qM, 1, none⟩) (Kd.aT (p := ⟨qM, 0, none⟩) (Kd.bJ fT.out iF.out (by decide)) (fun _ hk => hk.2) (.slice wD oP.length wE)) (fun _ hk => hk.2) (.slice Cw jI.length BB)) (fun _ hk => hk.2) (.slice xe dS.length qm)) (fun _ hk => trivial), by refine sM ?_; exact Kd.dF (Kd.eB (p := ⟨qM, 2, none⟩) (Kd.eB (p := ⟨qM, 1, none⟩) (Kd.eB (p := ⟨qM, 0, none⟩) (Kd.jY kF.out iF.out (by decide)) (fun _ hk => hk.2) (.slice wD oP.length wE)) (fun _ hk => hk.2) (.slice Cw jI.length BB)) (fun _ hk => hk.2) (.slice xe dS.length qm)) (fun _ hk => hk.1), zB HB⟩
def ji.f (k : Nat) (au : Int) (ah : List (aD)) (l1 : List Int) (a2 : Int) : Option (List Int × (List (aD)) × (List (List (aD))) × Int) := (bK.f k au ah l1 a2).bind fun FB => (if FB = 0 then ((ig.f au ah l1 a2).bind fun abP => (if abP = true then (some (([] : List Int), ([] : List (aD)), ([] : List (List (aD))), 9)) else ((bN.f k au ah l1 a2).bind fun KY => (some (KY.1, KY.2.1, KY.2.2, 0))))) else (some (([] : List Int), ([] : List (aD)), ([] : List (List (aD))), FB)))
theorem ji.calls (k : Nat) (au : Int) (aZ : Option Addr) (aW : Nat) (ah : List (aD)) (A1 : Option Addr) (c1 : Nat) (l1 : List Int) (a2 : Int) (r1 : List Int) (r2 : List (aD)) (r3 : List (List (aD))) (r4 : Int) (w : World) (eY : Kd.C gm w aZ ah.length ah) (eZ : ah.length ≤ aW) (hr1 : Kd.C (Kd.int .i64) w A1 l1.length l1) (hc1 : l1.length ≤ c1) (hT : kQ w) (h : ji.f k au ah l1 a2 = some (r1, r2, r3, r4)) :
 Calls Tryd.prog 24 #[.agg #[.int .i64 au, .slice aZ ah.length aW], .slice A1 l1.length c1, .int .i64 a2] w fun e w' => ∃ Db C8 P9 : Value, e = .returned (.tuple #[.agg #[Db, C8, P9], .int .i64 r4]) ∧ Kd.R (Kd.int .i64) 3 w' w.heap.size (fun _ => True) Db r1 ∧ Kd.R gm 42 w' w.heap.size (fun _ => True) C8 r2 ∧ Kd.S (Kd.slice 42 gm) 22 w' w.heap.size (fun k_ => some k_ ≠ (C8 : Value).ownBlock) P9 r3 ∧ Below w.heap.size w w' := by
 have uk := Tryd.underlying24; have Mo := Tryd.underlying28; have cz := zA eY; have dX := zA eZ; clear eY eZ; have HR1 := zA hr1; have rX := zA hc1; clear hr1 hc1; have lM := zA hT; clear hT; have HB := zA (Below.refl w.heap.size w); have H : ((bK.f k au ah l1 a2).bind fun FB => (if FB = 0 then ((ig.f au ah l1 a2).bind fun abP => (if abP = true then (some (([] : List Int), ([] : List (aD)), ([] : List (List (aD))), 9)) else ((bN.f k au ah l1 a2).bind fun KY => (some (KY.1, KY.2.1, KY.2.2, 0))))) else (some (([] : List Int), ([] : List (aD)), ([] : List (List (aD))), FB)))) = some (r1, r2, r3, r4) := h; clear h; replace H := zE H; obtain ⟨FB, A4, H⟩ := H; (try dsimp only at H); by_cases c5 : FB = 0
 · rw [if_pos c5] at H; have pM : (FB == 0) = true := beq_iff_eq.mpr c5; have yh : (FB != 0) = false := bne_eq_false_iff_eq.mpr c5; clear c5; replace H := zE H; obtain ⟨abP, A6, H⟩ := H; (try dsimp only at H); by_cases c7 : abP = true
   · subst c7; rw [if_pos rfl] at H; simp only [Option.some.injEq, Prod.mk.injEq] at H; obtain ⟨rfl, rfl, rfl, rfl⟩ := H; go_enter Tryd.func24, Tryd.ntmps24; go_wp2_with (first | ((with_reducible refine aH (N := 3) rfl ?_); refine zX (N := 3) (cs := #[.int .i64 au, .slice aZ ah.length aW]) (t := 24) ?_; intro agS hg w8 aG hb; have nU := zA (aG); have agT := zA (zW hg HB); have agU := zA (zW hg HB); replace HB := zA (af (zB HB) hb); clear hb aG hg) | ((with_reducible refine aH (N := 6) rfl ?_); refine zX (N := 6) (cs := #[.slice none 0 0, .slice none 0 0, .slice none 0 0]) (t := 28) ?_; intro y7 hg w9 aG hb; have qZ := zA (aG); have agV := zA (zW hg HB); have agW := zA (zW hg HB); have AB := zA (lZ hg nU); have AJ := zA (l5 hg nU); replace nU := zA (dn nU hb); replace HB := zA (af (zB HB) hb); clear hb aG hg; have azz := AB.out; have azA := AJ.out; obtain ⟨_, _, _, _⟩ := iG nU) | ((with_reducible refine ay (f := 37) rfl ?_); refine zG (some 12) rfl Tryd.func37 #[.agg #[.int .i64 au, .slice aZ ah.length aW], .slice A1 l1.length c1, .int .i64 a2] ?_; (with_reducible refine (bK.calls k au _ _ ah _ _ l1 a2 FB _ ?aI ?aN ?bS ?bT A4.out).mono ?_); (case aI => exact jB cz HB); (case aN => exact dX.out); (case bS => exact jB HR1 HB); (case bT => exact rX.out); rintro e Tz ⟨rfl, hb⟩; refine ⟨_, rfl, ?_⟩; replace nU := zA (dn nU hb); replace qZ := zA (dn qZ hb); replace HB := zA (af (zB HB) hb); obtain ⟨_, _, _, _⟩ := iG nU) | ((with_reducible refine ay (f := 46) rfl ?_); refine zG (some 20) rfl Tryd.func46 #[.agg #[.int .i64 au, .slice aZ ah.length aW], .slice A1 l1.length c1, .int .i64 a2] ?_; (with_reducible refine (ig.calls au _ _ ah _ _ l1 a2 true _ ?aI ?aN ?bS ?bT A6.out).mono ?_); (case aI => exact jB cz HB); (case aN => exact dX.out); (case bS => exact jB HR1 HB); (case bT => exact rX.out); rintro e JF ⟨rfl, hb⟩; refine ⟨_, rfl, ?_⟩; replace nU := zA (dn nU hb); replace qZ := zA (dn qZ hb); replace HB := zA (af (zB HB) hb); obtain ⟨_, _, _, _, _, _⟩ := nG qZ)); refine bodyPost_ret (iw rfl _ _ y7 28 #[.slice none 0 0, .slice none 0 0, .slice none 0 0] (0, 0) _ rfl (by refine zk ?_; refine aV (cs := #[.slice none 0 0, .slice none 0 0, .slice none 0 0]) ?_ 2 _ rfl; refine zk ?_; refine aV (cs := #[.slice none 0 0, .slice none 0 0, .slice none 0 0]) ?_ 1 _ rfl; refine zk ?_; refine aV (cs := #[.slice none 0 0, .slice none 0 0, .slice none 0 0]) ?_ 0 _ rfl; refine zk ?_; exact qZ.out) Tryd.underlying28 rfl (by kernel_rfl)) rfl ?_; exact ⟨_, _, _, ze, Ab, Ab, Ab, zB HB⟩
   · replace c7 := Bool.eq_false_iff.mpr c7; subst c7; rw [if_neg (show ¬ (false = true) by decide)] at H; replace H := Option.bind_eq_some_iff.mp H; obtain ⟨⟨UF, Zf, abQ⟩, apn, H⟩ := H; (try dsimp only at H); have A16 := zA apn; clear apn; simp only [Option.some.injEq, Prod.mk.injEq] at H; obtain ⟨rfl, rfl, rfl, rfl⟩ := H; go_enter Tryd.func24, Tryd.ntmps24; go_wp2_with (first | ((with_reducible refine aH (N := 3) rfl ?_); refine zX (N := 3) (cs := #[.int .i64 au, .slice aZ ah.length aW]) (t := 24) ?_; intro agS hg w17 aG hb; have nU := zA (aG); have agT := zA (zW hg HB); have agU := zA (zW hg HB); replace HB := zA (af (zB HB) hb); clear hb aG hg) | ((with_reducible refine aH (N := 6) rfl ?_); refine zX (N := 6) (cs := #[.slice none 0 0, .slice none 0 0, .slice none 0 0]) (t := 28) ?_; intro y7 hg w18 aG hb; have qZ := zA (aG); have agV := zA (zW hg HB); have agW := zA (zW hg HB); have AB := zA (lZ hg nU); have AJ := zA (l5 hg nU); replace nU := zA (dn nU hb); replace HB := zA (af (zB HB) hb); clear hb aG hg; have apo := AB.out; have apq := AJ.out; obtain ⟨_, _, _, _⟩ := iG nU) | ((with_reducible refine ay (f := 37) rfl ?_); refine zG (some 12) rfl Tryd.func37 #[.agg #[.int .i64 au, .slice aZ ah.length aW], .slice A1 l1.length c1, .int .i64 a2] ?_; (with_reducible refine (bK.calls k au _ _ ah _ _ l1 a2 FB _ ?aI ?aN ?bS ?bT A4.out).mono ?_); (case aI => exact jB cz HB); (case aN => exact dX.out); (case bS => exact jB HR1 HB); (case bT => exact rX.out); rintro e w21 ⟨rfl, hb⟩; refine ⟨_, rfl, ?_⟩; replace nU := zA (dn nU hb); replace qZ := zA (dn qZ hb); replace HB := zA (af (zB HB) hb); obtain ⟨_, _, _, _⟩ := iG nU) | ((with_reducible refine ay (f := 46) rfl ?_); refine zG (some 20) rfl Tryd.func46 #[.agg #[.int .i64 au, .slice aZ ah.length aW], .slice A1 l1.length c1, .int .i64 a2] ?_; (with_reducible refine (ig.calls au _ _ ah _ _ l1 a2 false _ ?aI ?aN ?bS ?bT A6.out).mono ?_); (case aI => exact jB cz HB); (case aN => exact dX.out); (case bS => exact jB HR1 HB); (case bT => exact rX.out); rintro e w23 ⟨rfl, hb⟩; refine ⟨_, rfl, ?_⟩; replace nU := zA (dn nU hb); replace qZ := zA (dn qZ hb); replace HB := zA (af (zB HB) hb); obtain ⟨_, _, _, _⟩ := iG nU) | ((with_reducible refine ay (f := 47) rfl ?_); refine zG (some 25) rfl Tryd.func47 #[.agg #[.int .i64 au, .slice aZ ah.length aW], .slice A1 l1.length c1, .int .i64 a2] ?_; (with_reducible refine (bN.calls k au _ _ ah _ _ l1 a2 UF Zf abQ _ ?aI ?aN ?bS ?bT ?jh A16.out).mono ?_); (case aI => exact jB cz HB); (case aN => exact dX.out); (case bS => exact jB HR1 HB); (case bT => exact rX.out); (case jh => exact kQ.now lM.out (zB HB)); rintro e w25 ⟨aCd, aCe, aCf, rfl, ho0, ho1, ho2, hb⟩; refine ⟨_, rfl, ?_⟩; have agX := zA (Kd.dw ho0 (aJ (zB HB))); have agY := zA (Kd.dw ho1 (aJ (zB HB))); have agZ := zA (Kd.pI ho2 (aJ (zB HB))); replace nU := zA (dn nU hb); replace qZ := zA (dn qZ hb); replace HB := zA (af (zB HB) hb); obtain ⟨FC, FD, akt⟩ := Kd.bD agX.out; subst akt; obtain ⟨_, _, _, _, _, _⟩ := nG qZ; obtain ⟨FE, Cx, auT⟩ := Kd.bD agY.out; subst auT; obtain ⟨tZ, uf, abR⟩ := Kd.kX agZ.out; subst abR)); refine bodyPost_ret (iw rfl _ _ y7 28 #[.slice FC UF.length FD, .slice FE Zf.length Cx, .slice tZ abQ.length uf] (0, 0) _ rfl (by refine zk ?_; refine aV (cs := #[.slice FC UF.length FD, .slice FE Zf.length Cx, .slice none 0 0]) ?_ 2 _ rfl; refine zk ?_; refine aV (cs := #[.slice FC UF.length FD, .slice none 0 0, .slice none 0 0]) ?_ 1 _ rfl; refine zk ?_; refine aV (cs := #[.slice none 0 0, .slice none 0 0, .slice none 0 0]) ?_ 0 _ rfl; refine zk ?_; exact qZ.out) Tryd.underlying28 rfl (by kernel_rfl)) rfl ?_; exact ⟨_, _, _, ze, by refine jF ?_; exact Kd.aQ (Kd.aT (p := ⟨y7, 2, none⟩) (Kd.aT (p := ⟨y7, 1, none⟩) (Kd.aT (p := ⟨y7, 0, none⟩) (Kd.bJ agX.out qZ.out (by decide)) (fun _ hk => hk.2) (.slice FC UF.length FD)) (fun _ hk => hk.2) (.slice FE Zf.length Cx)) (fun _ hk => hk.2) (.slice tZ abQ.length uf)) (fun _ hk => trivial), by refine jF ?_; exact Kd.aQ (Kd.aT (p := ⟨y7, 2, none⟩) (Kd.aT (p := ⟨y7, 1, none⟩) (Kd.aT (p := ⟨y7, 0, none⟩) (Kd.bJ agY.out qZ.out (by decide)) (fun _ hk => hk.2) (.slice FC UF.length FD)) (fun _ hk => hk.2) (.slice FE Zf.length Cx)) (fun _ hk => hk.2) (.slice tZ abQ.length uf)) (fun _ hk => trivial), by refine sM ?_; exact Kd.dF (Kd.eB (p := ⟨y7, 2, none⟩) (Kd.eB (p := ⟨y7, 1, none⟩) (Kd.eB (p := ⟨y7, 0, none⟩) (Kd.jY agZ.out qZ.out (by decide)) (fun _ hk => hk.2) (.slice FC UF.length FD)) (fun _ hk => hk.2) (.slice FE Zf.length Cx)) (fun _ hk => hk.2) (.slice tZ abQ.length uf)) (fun _ hk => hk.1), zB HB⟩
 · rw [if_neg c5] at H; have pM : (FB == 0) = false := beq_eq_false_iff_ne.mpr c5; have yh : (FB != 0) = true := bne_iff_ne.mpr c5; simp only [Option.some.injEq, Prod.mk.injEq] at H; obtain ⟨rfl, rfl, rfl, rfl⟩ := H; go_enter Tryd.func24, Tryd.ntmps24; go_wp2_with (first | ((with_reducible refine aH (N := 3) rfl ?_); refine zX (N := 3) (cs := #[.int .i64 au, .slice aZ ah.length aW]) (t := 24) ?_; intro agS hg w30 aG hb; have nU := zA (aG); have agT := zA (zW hg HB); have agU := zA (zW hg HB); replace HB := zA (af (zB HB) hb); clear hb aG hg) | ((with_reducible refine aH (N := 6) rfl ?_); refine zX (N := 6) (cs := #[.slice none 0 0, .slice none 0 0, .slice none 0 0]) (t := 28) ?_; intro y7 hg w31 aG hb; have qZ := zA (aG); have agV := zA (zW hg HB); have agW := zA (zW hg HB); have AB := zA (lZ hg nU); have AJ := zA (l5 hg nU); replace nU := zA (dn nU hb); replace HB := zA (af (zB HB) hb); clear hb aG hg; have ao3 := AB.out; have ao4 := AJ.out; obtain ⟨_, _, _, _⟩ := iG nU) | ((with_reducible refine ay (f := 37) rfl ?_); refine zG (some 12) rfl Tryd.func37 #[.agg #[.int .i64 au, .slice aZ ah.length aW], .slice A1 l1.length c1, .int .i64 a2] ?_; (with_reducible refine (bK.calls k au _ _ ah _ _ l1 a2 FB _ ?aI ?aN ?bS ?bT A4.out).mono ?_); (case aI => exact jB cz HB); (case aN => exact dX.out); (case bS => exact jB HR1 HB); (case bT => exact rX.out); rintro e w34 ⟨rfl, hb⟩; refine ⟨_, rfl, ?_⟩; replace nU := zA (dn nU hb); replace qZ := zA (dn qZ hb); replace HB := zA (af (zB HB) hb); obtain ⟨_, _, _, _, _, _⟩ := nG qZ)); refine bodyPost_ret (iw rfl _ _ y7 28 #[.slice none 0 0, .slice none 0 0, .slice none 0 0] (0, 0) _ rfl (by refine zk ?_; refine aV (cs := #[.slice none 0 0, .slice none 0 0, .slice none 0 0]) ?_ 2 _ rfl; refine zk ?_; refine aV (cs := #[.slice none 0 0, .slice none 0 0, .slice none 0 0]) ?_ 1 _ rfl; refine zk ?_; refine aV (cs := #[.slice none 0 0, .slice none 0 0, .slice none 0 0]) ?_ 0 _ rfl; refine zk ?_; exact qZ.out) Tryd.underlying28 rfl (by kernel_rfl)) rfl ?_; exact ⟨_, _, _, ze, Ab, Ab, Ab, zB HB⟩
end Go.Proofs.YtjmdlmogdbhdhaaDoor.P
namespace Go.Proofs.YtjmdlmogdbhdhaaDoor.P
open Go.RowKit Go.Proofs.YtjmdlmogdbhdhaaDoorW.PrintWords Go.Proofs.YtjmdlmogdbhdhaaDoorW.PrintLast Go.Proofs.YtjmdlmogdbhdhaaDoorW.PrintMore
theorem abS {N : Int} {s : List Int} (hs : mD N s) (hl : s.length ≤ 1000) : ∀ (n i : Nat), n + i = s.length → Ev (fun k => dG.l0 k s N s (s.length : Int) (i : Int)) true
  | 0, i, hi => by
    refine Ev.succ ?_
    simp only [dG.l0]
    exact Ev.neg (by omega) (Ev.const _)
  | n + 1, i, hi => by
    have hlt : i < s.length := by omega
    have hr := hs.1 _ (List.getElem_mem hlt)
    have ih := abS hs hl n (i + 1) (by omega)
    refine Ev.succ ?_
    simp only [dG.l0, pQ s i hlt, Ck i (by omega)]
    refine Ev.pos (by omega) (Ev.pos (by omega) (Ev.pos (by omega) (Ev.neg (by omega) (Ev.neg (by omega) ?_))))
    cases i with
    | zero => exact Ev.neg (by omega) ih
    | succ i =>
      have hi' : i < s.length := by omega
      have hw2 : wrap64 (((i + 1 : Nat) : Int) - 1) = (i : Int) := by rw [kT _ (by omega) (by omega)]; omega
      have ho : s[i] < s[i + 1] := List.pairwise_iff_getElem.1 hs.2 i (i + 1) hi' hlt (by omega)
      simp only [hw2, pQ s i hi']
      exact Ev.pos (by omega) (Ev.pos (by omega) (Ev.pos (by omega) (Ev.neg (by omega) ih)))
theorem FH {N : Int} {L : List aD} (hG : jd N L) {s : List Int} (hs : mD N s) {kind : Int} (hk : kind = 1 ∨ kind = 2) : Ev (fun k => bK.f k N L s kind) 0 := by
  have hl := hs.len hG.n0 hG.n1
  have ha : Ev (fun k => dG.f k s N) true := abS hs (by omega) s.length 0 (by omega)
  have hj : Ev (fun k => bK.j0 k s false N L) 0 := by
    refine Ev.succ ?_
    simp only [bK.j0]
    exact Ev.neg (by simp) (Ev.bind ha (Ev.pos rfl (Ev.const _)))
  simp only [bK.f]
  refine Ev.bind (KG hG) (Ev.pos rfl ?_)
  rcases hk with rfl | rfl
  · exact Ev.pos rfl hj
  · exact Ev.neg (by omega) hj
def KZ (s : List Int) (d : List aD) : aD :=
  let p := aa d 0
  if zJ s p.f0 && zJ s p.f1 then p else ⟨rd s 0, if zJ s p.f1 then p.f0 else p.f1⟩
theorem abT {s : List Int} {d : List aD} (h : (zJ s (aa d 0).f0 && zJ s (aa d 0).f1) = true) : KZ s d = aa d 0 := by
  unfold KZ
  exact if_pos h
theorem JM {s : List Int} {d : List aD} (h : (zJ s (aa d 0).f0 && zJ s (aa d 0).f1) = false) : KZ s d = ⟨rd s 0, if zJ s (aa d 0).f1 = true then (aa d 0).f0 else (aa d 0).f1⟩ := by
  unfold KZ
  exact if_neg (by rw [h]; simp)
theorem Ns {s : List Int} {u : Int} (hu : qI u (inl s)) {ds : List (List aD)} (hlen : ds.length ≤ 100000) (hd : ∀ d ∈ ds, 0 < d.length ∧ 0 < s.length ∧ 0 ≤ (aa d 0).f0 ∧ (aa d 0).f0 < 64 ∧ 0 ≤ (aa d 0).f1 ∧ (aa d 0).f1 < 64) (cl : List Int) (r3 : List (List aD)) :
    ∀ (n i : Nat), n + i = ds.length → ∀ ch : List aD, ch.length ≤ i → Ev (fun k => bN.l0 k s u ds (ds.length : Int) (i : Int) cl ch r3) (cl, ch ++ (ds.drop i).map (KZ s), r3)
  | 0, i, hi, ch, hc => by
    refine Ev.succ ?_
    simp only [bN.l0]
    refine Ev.neg (by omega) ?_
    rw [List.drop_eq_nil_of_le (by omega), List.map_nil, List.append_nil]
    exact Ev.const _
  | n + 1, i, hi, ch, hc => by
    have hlt : i < ds.length := by omega
    obtain ⟨h1, h2, h3, h4, h5, h6⟩ := hd _ (List.getElem_mem hlt)
    have hrd : bC ds (i : Int) = ds[i] := by simp [bC, hlt]
    have ih := fun x => Ns hu hlen hd cl r3 n (i + 1) (by omega) (ch ++ [x]) (by simp; omega)
    have hch : (ds.drop i).map (KZ s) = KZ s ds[i] :: (ds.drop (i + 1)).map (KZ s) := by rw [List.drop_eq_getElem_cons hlt, List.map_cons]
    have fin : ∀ x, x = KZ s ds[i] → Ev (fun k => bN.l0 k s u ds (ds.length : Int) ((i + 1 : Nat) : Int) cl (ch ++ [x]) r3) (cl, ch ++ (ds.drop i).map (KZ s), r3) := by
      rintro x rfl
      have := ih (KZ s ds[i])
      rw [List.append_assoc] at this
      rw [hch]
      exact this
    have hj : ∀ b, b = !(zJ s (aa ds[i] 0).f0 && zJ s (aa ds[i] 0).f1) → Ev (fun k => bN.j1 k s u ds (ds.length : Int) (i : Int) b cl ch r3 (aa ds[i] 0).f0 (aa ds[i] 0).f1) (cl, ch ++ (ds.drop i).map (KZ s), r3) := by
      intro b hb
      refine Ev.succ ?_
      simp only [bN.j1, Ck i (by omega), Fy hu (aa ds[i] 0).f1 h5 h6, xk s (aa ds[i] 0).f1 h5, Option.bind_some]
      cases b with
      | true =>
        have hno : (zJ s (aa ds[i] 0).f0 && zJ s (aa ds[i] 0).f1) = false := by rw [← Bool.not_eq_true']; exact hb.symm
        refine Ev.pos rfl ?_
        cases hf : zJ s (aa ds[i] 0).f1 with
        | true => exact Ev.pos rfl (Ev.pos (by omega) (Ev.pos (by omega) (fin _ (by rw [JM hno, if_pos hf]))))
        | false => exact Ev.neg (by simp) (Ev.pos (by omega) (Ev.pos (by omega) (fin _ (by rw [JM hno, hf, if_neg (by simp)]))))
      | false =>
        have hyes : (zJ s (aa ds[i] 0).f0 && zJ s (aa ds[i] 0).f1) = true := by rw [← Bool.not_eq_false']; exact hb.symm
        exact Ev.neg (by simp) (Ev.pos (by omega) (fin _ (by rw [abT hyes])))
    refine Ev.succ ?_
    simp only [bN.l0, hrd, Fy hu (aa ds[i] 0).f0 h3 h4, Fy hu (aa ds[i] 0).f1 h5 h6, xk s (aa ds[i] 0).f0 h3, xk s (aa ds[i] 0).f1 h5, Option.bind_some]
    refine Ev.pos (by omega) (Ev.pos (by omega) (Ev.pos (by omega) (Ev.pos (by omega) ?_)))
    cases hf : zJ s (aa ds[i] 0).f0 with
    | true => exact Ev.pos rfl (hj _ (by rw [hf, Bool.true_and]))
    | false => exact Ev.neg (by simp) (hj true (by rw [hf]; rfl))
theorem Dk (L : List aD) (s : List Int) (kind : Int) (d : List aD) : ∀ (n i : Nat), d ∈ vV L s kind n i ↔ ∃ a : Nat, i ≤ a ∧ a < i + n ∧ Ew L s kind a = false ∧ d = wC L s kind a
  | 0, i => by
    simp only [vV, List.not_mem_nil, false_iff]
    rintro ⟨a, h1, h2, _⟩
    omega
  | n + 1, i => by
    have ih := Dk L s kind d n (i + 1)
    simp only [vV]
    by_cases hs : Ew L s kind i = true
    · rw [if_pos hs, ih]
      constructor
      · rintro ⟨a, h1, h2, h3, h4⟩
        exact ⟨a, by omega, by omega, h3, h4⟩
      · rintro ⟨a, h1, h2, h3, h4⟩
        by_cases hai : a = i
        · rw [hai, hs] at h3; cases h3
        · exact ⟨a, by omega, by omega, h3, h4⟩
    · rw [if_neg hs, List.mem_cons, ih]
      constructor
      · rintro (h | ⟨a, h1, h2, h3, h4⟩)
        · exact ⟨i, by omega, by omega, by simpa using hs, h⟩
        · exact ⟨a, by omega, by omega, h3, h4⟩
      · rintro ⟨a, h1, h2, h3, h4⟩
        by_cases hai : a = i
        · left; rw [h4, hai]
        · right; exact ⟨a, by omega, by omega, h3, h4⟩
theorem Rs (L : List aD) (s : List Int) (d : List aD) : d ∈ D5 L s ↔ ∃ p ∈ L, p.f0 ∈ s ∧ p.f1 ∈ s ∧ d = [p] := by
  unfold D5
  simp only [List.mem_map, List.mem_filter, Bool.and_eq_true, zJ, decide_eq_true_eq]
  constructor
  · rintro ⟨p, ⟨h1, h2, h3⟩, rfl⟩
    exact ⟨p, h1, h2, h3, rfl⟩
  · rintro ⟨p, h1, h2, h3, rfl⟩
    exact ⟨p, ⟨h1, h2, h3⟩, rfl⟩
theorem xm {N : Int} (hN : 0 ≤ N) (L : List aD) (s : List Int) (kind : Int) (d : List aD) : d ∈ qA N L s kind ↔ (∃ p ∈ L, p.f0 ∈ s ∧ p.f1 ∈ s ∧ d = [p]) ∨ ∃ a : Nat, (a : Int) < N ∧ Ew L s kind a = false ∧ d = wC L s kind a := by
  unfold qA
  rw [List.mem_append, Rs, Dk]
  refine or_congr Iff.rfl ⟨?_, ?_⟩
  · rintro ⟨a, h1, h2, h3, h4⟩
    exact ⟨a, by omega, h3, h4⟩
  · rintro ⟨a, h1, h3, h4⟩
    exact ⟨a, by omega, by omega, h3, h4⟩
theorem Rt (L : List aD) (s : List Int) (hs : ∀ x ∈ s, 0 ≤ x ∧ x < 64) (kind : Int) (a : Nat) (p : aD) : p ∈ Uz L s kind a ↔ (p.f0 ∈ s ∧ p.f1 = a) ∨ (kind = 1 ∧ p.f0 = a ∧ p.f1 ∈ s ∧ p ∈ L) := by
  unfold Uz
  rw [List.mem_append]
  have h1 : p ∈ s.map (fun x => (⟨x, (a : Int)⟩ : aD)) ↔ (p.f0 ∈ s ∧ p.f1 = a) := by
    rw [List.mem_map]
    constructor
    · rintro ⟨x, hx, rfl⟩
      exact ⟨hx, rfl⟩
    · rintro ⟨hx, hy⟩
      exact ⟨p.f0, hx, by cases p; simp only at hy; rw [hy]⟩
  rw [h1]
  refine or_congr Iff.rfl ?_
  by_cases hk : kind = 1
  · rw [if_pos hk, List.mem_map]
    unfold back
    have hsm : ∀ b : Nat, 64 ≤ b → (TA L a b && inl s b) = false := fun b hb => by
      have : inl s b = false := decide_eq_false (fun h => by have := hs _ h; omega)
      rw [this, Bool.and_false]
    constructor
    · rintro ⟨x, hx, rfl⟩
      rw [wY hsm] at hx
      obtain ⟨h0, hx⟩ := hx
      rw [Bool.and_eq_true] at hx
      have hc : ((x.toNat : Nat) : Int) = x := by omega
      have e1 := of_decide_eq_true hx.1
      have e2 := of_decide_eq_true hx.2
      rw [hc] at e1 e2
      exact ⟨hk, rfl, e2, e1⟩
    · rintro ⟨_, h2, h3, h4⟩
      have h5 := hs _ h3
      have hc : ((p.f1.toNat : Nat) : Int) = p.f1 := by omega
      have hpe : p = ⟨(a : Int), p.f1⟩ := by cases p; simp only at h2; rw [h2]
      refine ⟨p.f1, (wY hsm _).2 ⟨h5.1, ?_⟩, hpe.symm⟩
      rw [Bool.and_eq_true]
      exact ⟨decide_eq_true (by rw [hc, ← hpe]; exact h4), decide_eq_true (by rw [hc]; exact h3)⟩
  · rw [if_neg hk]
    simp [hk]
theorem AL (L : List aD) (s : List Int) (hs : ∀ x ∈ s, 0 ≤ x ∧ x < 64) (kind : Int) (a : Nat) (p : aD) : p ∈ wC L s kind a ↔ (p.f0 ∈ s ∧ p.f1 = a) ∨ (kind = 1 ∧ p.f0 = a ∧ p.f1 ∈ s ∧ p ∈ L) := by
  unfold wC
  rw [(yo _).mem_iff, Rt L s hs]
theorem head_mem {d : List aD} (h : 0 < d.length) : aa d 0 ∈ d := by
  have := o7 d 0 h
  rw [show (0 : Int) = ((0 : Nat) : Int) from rfl, this]
  exact List.getElem_mem h
theorem vI {L : List aD} {s : List Int} {kind : Int} {a : Nat} (h : Ew L s kind a = false) : ¬ (a : Int) ∈ s := by
  unfold Ew at h
  rw [Bool.or_eq_false_iff] at h
  exact of_decide_eq_false h.1
theorem FI {L : List aD} {s : List Int} (hs : ∀ x ∈ s, 0 ≤ x ∧ x < 64) (kind : Int) (a : Nat) (hne : 0 < s.length) : 0 < (wC L s kind a).length := by
  refine List.length_pos_of_mem (a := (⟨s[0], (a : Int)⟩ : aD)) ?_
  rw [AL L s hs]
  exact .inl ⟨List.getElem_mem hne, rfl⟩
theorem FJ {L : List aD} {s : List Int} (hs : ∀ x ∈ s, 0 ≤ x ∧ x < 64) {kind : Int} {a : Nat} (h : Ew L s kind a = false) (hne : 0 < s.length) : KZ s (wC L s kind a) = ⟨rd s 0, (a : Int)⟩ := by
  have ha := vI h
  have hm := (AL L s hs kind a _).1 (head_mem (FI (L := L) hs kind a hne))
  have hn : zJ s (a : Int) = false := decide_eq_false ha
  rcases hm with ⟨h1, h2⟩ | ⟨_, h1, h2, _⟩
  · have h3 : zJ s (aa (wC L s kind a) 0).f1 = false := by rw [h2]; exact hn
    rw [JM (by rw [h3, Bool.and_false]), if_neg (by rw [h3]; simp), h2]
  · have h3 : zJ s (aa (wC L s kind a) 0).f0 = false := by rw [h1]; exact hn
    have h4 : zJ s (aa (wC L s kind a) 0).f1 = true := decide_eq_true h2
    rw [JM (by rw [h3, Bool.false_and]), if_pos h4, h1]
theorem FL {s : List Int} {p : aD} (h0 : p.f0 ∈ s) (h1 : p.f1 ∈ s) : KZ s [p] = p := by
  have e : aa [p] 0 = p := rfl
  rw [abT (by rw [e, show zJ s p.f0 = true from decide_eq_true h0, show zJ s p.f1 = true from decide_eq_true h1]; rfl), e]
theorem JN {N : Int} {L : List aD} (hG : jd N L) (s : List Int) (kind : Int) : (qA N L s kind).length ≤ 1640 := by
  have h1 := mq hG
  have h2 := hG.n1
  have h3 : (D5 L s).length ≤ L.length := by
    unfold D5
    rw [List.length_map]
    exact List.length_filter_le _ _
  have h4 : ∀ (n i : Nat), (vV L s kind n i).length ≤ n := by
    intro n
    induction n with
    | zero => intro i; simp [vV]
    | succ n ih =>
      intro i
      have := ih (i + 1)
      simp only [vV]
      split
      · omega
      · simp; omega
  have := h4 N.toNat 0
  unfold qA
  rw [List.length_append]
  omega
theorem Nt {N : Int} {L : List aD} (hG : jd N L) {s : List Int} (hs : mD N s) {kind : Int} (hne : 0 < s.length ∨ qA N L s kind = []) : Ev (fun k => bN.f k N L s kind) (s, (qA N L s kind).map (KZ s), qA N L s kind) := by
  have h0 := hG.n0
  have h1 := hG.n1
  have hl := hs.len h0 h1
  have qb : ∀ x ∈ s, 0 ≤ x ∧ x < 64 := fun x hx => by have := hs.1 x hx; omega
  obtain ⟨u, e1, hu⟩ := hs.of h0 h1
  have hc : @iM.f s = some s := by unfold iM.f; rw [if_pos (by omega)]
  have hd : ∀ d ∈ qA N L s kind, 0 < d.length ∧ 0 < s.length ∧ 0 ≤ (aa d 0).f0 ∧ (aa d 0).f0 < 64 ∧ 0 ≤ (aa d 0).f1 ∧ (aa d 0).f1 < 64 := by
    intro d hd
    have hne' : 0 < s.length := hne.resolve_right (fun e => by rw [e] at hd; cases hd)
    rcases (xm h0 L s kind d).1 hd with ⟨p, hp, h2, h3, rfl⟩ | ⟨a, ha, hsk, rfl⟩
    · have := hG.inr p hp
      exact ⟨by simp, hne', by show 0 ≤ p.f0; omega, by show p.f0 < 64; omega, by show 0 ≤ p.f1; omega, by show p.f1 < 64; omega⟩
    · have hp := FI (L := L) qb kind a hne'
      have hm := (AL L s qb kind a _).1 (head_mem hp)
      refine ⟨hp, hne', ?_⟩
      rcases hm with ⟨h2, h3⟩ | ⟨_, h2, h3, _⟩
      · have := qb _ h2
        omega
      · have := qb _ h3
        omega
  have hstr := Ns hu (ds := qA N L s kind) (by have := JN hG s kind; omega) hd s (qA N L s kind) (qA N L s kind).length 0 (by omega) [] (by simp)
  rw [List.drop_zero, List.nil_append] at hstr
  simp only [bN.f, hc, Option.bind_some]
  exact Ev.bind e1 (Ev.bind (Ia hG hs kind) hstr)
theorem Zg (L : List aD) (a : Nat) : Ew L [] 1 a = true := by
  have : Fq L (inl []) a = false := by
    rw [Bool.eq_false_iff]
    intro h
    obtain ⟨b, hb, _⟩ := (Aw L [] (fun x hx => by cases hx) a).1 h
    cases hb
  unfold Ew
  rw [this]
  simp
theorem Nu {N : Int} {L : List aD} (hN : 0 ≤ N) {kind : Int} (h : kind = 1 ∨ N = 0) : qA N L [] kind = [] := by
  rw [List.eq_nil_iff_forall_not_mem]
  intro d hd
  rcases (xm hN L [] kind d).1 hd with ⟨p, _, h1, _⟩ | ⟨a, ha, hs, _⟩
  · cases h1
  · rcases h with rfl | h
    · rw [Zg] at hs; cases hs
    · omega
def jk (N : Int) (s : List Int) (kind : Int) : Prop := s = [] ∧ kind = 2 ∧ 0 < N
instance (N : Int) (s : List Int) (kind : Int) : Decidable (jk N s kind) := by unfold jk; infer_instance
theorem K3 (N : Int) (L : List aD) (s : List Int) (kind : Int) : ig.f N L s kind = some (decide (jk N s kind)) := by
  unfold ig.f jk
  cases s with
  | nil =>
    by_cases hk : kind = 2
    · simp [hk]
    · simp [hk]
  | cons a r =>
    rw [if_neg (by simp; omega)]
    simp
theorem Nv {N : Int} {L : List aD} (hG : jd N L) {s : List Int} (hs : mD N s) {kind : Int} (hk : kind = 1 ∨ kind = 2) : Ev (fun k => ji.f k N L s kind) (if jk N s kind then ([], [], [], 9) else (s, (qA N L s kind).map (KZ s), qA N L s kind, 0)) := by
  have h0 := hG.n0
  simp only [ji.f, K3, Option.bind_some]
  refine Ev.bind (FH hG hs hk) (Ev.pos rfl ?_)
  by_cases hh : jk N s kind
  · rw [if_pos hh]
    exact Ev.pos (decide_eq_true hh) (Ev.const _)
  · rw [if_neg hh]
    refine Ev.neg (by simpa using hh) (Ev.bind (Nt hG hs ?_) (Ev.const _))
    cases s with
    | cons a r => exact .inl (by simp)
    | nil =>
      refine .inr (Nu h0 ?_)
      rcases hk with rfl | rfl
      · exact .inl rfl
      · right
        have : ¬ 0 < N := fun h => hh ⟨rfl, rfl, h⟩
        omega
def EM (N : Int) (L : List aD) (s : List Int) (kind : Int) : List aD := (qA N L s kind).map (KZ s)
theorem WQ {N : Int} (hN : 0 ≤ N) (L : List aD) {s : List Int} (hs : ∀ x ∈ s, 0 ≤ x ∧ x < 64) (kind : Int) (hne : 0 < s.length ∨ qA N L s kind = []) (p : aD) : p ∈ EM N L s kind ↔ (p ∈ L ∧ p.f0 ∈ s ∧ p.f1 ∈ s) ∨ (0 < s.length ∧ ∃ a : Nat, (a : Int) < N ∧ Ew L s kind a = false ∧ p = ⟨rd s 0, (a : Int)⟩) := by
  unfold EM
  rw [List.mem_map]
  constructor
  · rintro ⟨d, hd, rfl⟩
    have hne' : 0 < s.length := hne.resolve_right (fun e => by rw [e] at hd; cases hd)
    rcases (xm hN L s kind d).1 hd with ⟨p, hp, h2, h3, rfl⟩ | ⟨a, ha, hsk, rfl⟩
    · rw [FL h2 h3]
      exact .inl ⟨hp, h2, h3⟩
    · rw [FJ hs hsk hne']
      exact .inr ⟨hne', a, ha, hsk, rfl⟩
  · rintro (⟨h1, h2, h3⟩ | ⟨hne', a, ha, hsk, rfl⟩)
    · exact ⟨[p], (xm hN L s kind _).2 (.inl ⟨p, h1, h2, h3, rfl⟩), FL h2 h3⟩
    · exact ⟨_, (xm hN L s kind _).2 (.inr ⟨a, ha, hsk, rfl⟩), FJ hs hsk hne'⟩
theorem FM {s : List Int} (h : 0 < s.length) : rd s 0 ∈ s := by
  have := pQ s 0 h
  rw [show (0 : Int) = ((0 : Nat) : Int) from rfl, this]
  exact List.getElem_mem h
theorem aeV {N : Int} {L R : List aD} (hG : jd N L) {s : List Int} (hs : mD N s) {kind : Int} (hk : kind = 1 ∨ kind = 2) (hh : ¬ jk N s kind) (hne : 0 < s.length ∨ qA N L s kind = []) (hR : Jq L (EM N L s kind) R) : aeD N R s kind := by
  have hN := hG.n0
  have hN2 := hG.n1
  have qb : ∀ x ∈ s, 0 ≤ x ∧ x < 64 := fun x hx => by have := hs.1 x hx; omega
  have hm := WQ hN L qb kind hne
  have stay : ∀ (x a : Int), x ∈ s → 0 ≤ a → ¬ a ∈ s → (⟨x, a⟩ : aD) ∈ L → (⟨x, a⟩ : aD) ∈ R := by
    intro x a hx h0 ha he
    refine (hR _).2 (.inl ⟨he, fun hc => ?_⟩)
    rcases (hm _).1 hc with ⟨_, _, h3⟩ | ⟨_, b, _, hsk, hb⟩
    · exact ha h3
    · have hab : a = (b : Int) := congrArg aD.f1 hb
      have : hits L (inl s) b = true := (qX L s qb b).2 ⟨x, hx, by rw [← hab]; exact he⟩
      unfold Ew at hsk
      rw [this] at hsk
      simp at hsk
  have new : ∀ (a : Nat), (a : Int) < N → Ew L s kind a = false → 0 < s.length → (⟨rd s 0, (a : Int)⟩ : aD) ∈ R := by
    intro a ha hsk hp
    refine (hR _).2 (.inr ⟨fun he => ?_, (hm _).2 (.inr ⟨hp, a, ha, hsk, rfl⟩)⟩)
    have : hits L (inl s) a = true := (qX L s qb a).2 ⟨rd s 0, FM hp, he⟩
    unfold Ew at hsk
    rw [this] at hsk
    simp at hsk
  refine ⟨fun a ha b hb he => ?_, ?_⟩
  · rcases (hR _).1 he with ⟨h1, h2⟩ | ⟨h1, h2⟩
    · exact h2 ((hm _).2 (.inl ⟨h1, ha, hb⟩))
    · rcases (hm _).1 h2 with ⟨h3, _⟩ | ⟨_, c, _, hsk, hc⟩
      · exact h1 h3
      · have hbc : b = (c : Int) := congrArg aD.f1 hc
        exact vI hsk (by rw [← hbc]; exact hb)
  · by_cases hk2 : kind = 2
    · rw [if_pos hk2]
      intro a h0 ha
      by_cases has : a ∈ s
      · exact .inl has
      · right
        have hc : ((a.toNat : Nat) : Int) = a := by omega
        have hp : 0 < s.length := by
          rcases Nat.eq_zero_or_pos s.length with h | h
          · exact absurd ⟨List.eq_nil_of_length_eq_zero h, hk2, by omega⟩ hh
          · exact h
        by_cases hhit : hits L (inl s) a.toNat = true
        · obtain ⟨x, hx, he⟩ := (qX L s qb _).1 hhit
          rw [hc] at he
          exact ⟨x, hx, stay x a hx h0 has he⟩
        · have hsk : Ew L s kind a.toNat = false := by
            unfold Ew
            rw [show inl s a.toNat = false from by unfold inl; rw [hc]; exact decide_eq_false has, show decide (kind = 1) = false from decide_eq_false (by omega)]
            simpa using hhit
          have := new a.toNat (by omega) hsk hp
          rw [hc] at this
          exact ⟨_, FM hp, this⟩
    · rw [if_neg hk2]
      intro p hp hb
      have hk1 : kind = 1 := by omega
      have hpos : 0 < s.length := List.length_pos_of_mem hb
      have hpL : p ∈ L ∧ ¬ p ∈ EM N L s kind := by
        rcases (hR _).1 hp with h | ⟨h1, h2⟩
        · exact h
        · rcases (hm _).1 h2 with ⟨h3, _⟩ | ⟨_, c, _, hsk, hc⟩
          · exact absurd h3 h1
          · exact absurd (by rw [hc] at hb; exact hb) (vI hsk)
      have hr := hG.inr p hpL.1
      have has : ¬ p.f0 ∈ s := fun h => hpL.2 ((hm _).2 (.inl ⟨hpL.1, h, hb⟩))
      have hc : ((p.f0.toNat : Nat) : Int) = p.f0 := by omega
      by_cases hhit : hits L (inl s) p.f0.toNat = true
      · obtain ⟨x, hx, he⟩ := (qX L s qb _).1 hhit
        rw [hc] at he
        exact ⟨x, hx, stay x p.f0 hx hr.1 has he⟩
      · have hby : Fq L (inl s) p.f0.toNat = true := (Aw L s qb _).2 ⟨p.f1, hb, by rw [hc]; exact hpL.1⟩
        have hsk : Ew L s kind p.f0.toNat = false := by
          unfold Ew
          rw [hby, show inl s p.f0.toNat = false from by unfold inl; rw [hc]; exact decide_eq_false has]
          simpa using hhit
        have := new p.f0.toNat (by omega) hsk hpos
        rw [hc] at this
        exact ⟨_, FM hpos, this⟩
theorem abU (L : List aD) (s : List Int) : (D5 L s).map (KZ s) = L.filter fun p => zJ s p.f0 && zJ s p.f1 := by
  unfold D5
  rw [List.map_map]
  conv => rhs; rw [← List.map_id (L.filter fun p => zJ s p.f0 && zJ s p.f1)]
  refine List.map_congr_left fun p hp => ?_
  rw [List.mem_filter, Bool.and_eq_true] at hp
  exact FL (of_decide_eq_true hp.2.1) (of_decide_eq_true hp.2.2)
theorem Ru {L : List aD} {s : List Int} (hs : ∀ x ∈ s, 0 ≤ x ∧ x < 64) (kind : Int) (hne : 0 < s.length) : ∀ n i, ((vV L s kind n i).map (KZ s)).Pairwise (fun p q => p.f1 < q.f1) ∧ ∀ p ∈ (vV L s kind n i).map (KZ s), (i : Int) ≤ p.f1
  | 0, i => by simp [vV]
  | n + 1, i => by
    obtain ⟨h1, h2⟩ := Ru hs kind hne (L := L) n (i + 1)
    simp only [vV]
    by_cases hsk : Ew L s kind i = true
    · rw [if_pos hsk]
      exact ⟨h1, fun p hp => by have := h2 p hp; omega⟩
    · rw [if_neg hsk, List.map_cons, FJ hs (by simpa using hsk) hne]
      refine ⟨List.pairwise_cons.2 ⟨fun p hp => ?_, h1⟩, fun p hp => ?_⟩
      · have := h2 p hp
        show (i : Int) < p.f1
        omega
      · rcases List.mem_cons.1 hp with rfl | hp
        · exact Int.le_refl _
        · have := h2 p hp
          omega
theorem Zh {N : Int} {L : List aD} (hG : jd N L) {s : List Int} (hs : mD N s) (kind : Int) (hne : 0 < s.length ∨ qA N L s kind = []) : (EM N L s kind).Nodup := by
  have hN2 := hG.n1
  have qb : ∀ x ∈ s, 0 ≤ x ∧ x < 64 := fun x hx => by have := hs.1 x hx; omega
  rcases hne with hp | he
  · unfold EM qA
    rw [List.map_append, abU, List.nodup_append]
    obtain ⟨h1, _⟩ := Ru (L := L) qb kind hp N.toNat 0
    refine ⟨List.Nodup.sublist List.filter_sublist (DI hG.ord), List.nodup_iff_pairwise_ne.2 (h1.imp fun h e => by rw [e] at h; omega), fun p hp1 q hq => ?_⟩
    rintro rfl
    rw [List.mem_filter, Bool.and_eq_true] at hp1
    obtain ⟨d, hd, hdq⟩ := List.mem_map.1 hq
    obtain ⟨a, _, _, hsk, rfl⟩ := (Dk L s kind d _ _).1 hd
    rw [FJ qb hsk hp] at hdq
    have : p.f1 = (a : Int) := by rw [← hdq]
    exact vI hsk (by rw [← this]; exact of_decide_eq_true hp1.2.2)
  · unfold EM
    rw [he]
    simp
theorem aeW {N : Int} {L : List aD} (hG : jd N L) {s : List Int} (hs : mD N s) (kind : Int) (hne : 0 < s.length ∨ qA N L s kind = []) : InR N (EM N L s kind) := by
  have hN2 := hG.n1
  have qb : ∀ x ∈ s, 0 ≤ x ∧ x < 64 := fun x hx => by have := hs.1 x hx; omega
  intro p hp
  rcases (WQ hG.n0 L qb kind hne p).1 hp with ⟨h, _⟩ | ⟨hpos, a, ha, _, rfl⟩
  · exact hG.inr p h
  · have := hs.1 _ (FM hpos)
    exact ⟨this.1, this.2, by show (0 : Int) ≤ (a : Int); omega, ha⟩
end Go.Proofs.YtjmdlmogdbhdhaaDoor.P
namespace Go.Proofs.YtjmdlmogdbhdhaaDoor.P
open Go.RowKit Go.Proofs.YtjmdlmogdbhdhaaDoorW.PrintWords Go.Proofs.YtjmdlmogdbhdhaaDoorW.PrintLast Go.Proofs.YtjmdlmogdbhdhaaDoorW.PrintMore
attribute [local go_sem] iI iJ jP jQ gH gI iK iL
set_option linter.unusedVariables false
set_option linter.unusedSimpArgs false
attribute [local go_sem high] VU
set_option maxHeartbeats 8000000
set_option maxRecDepth 100000
def jM.l0 : Nat → List (aD) → Int → Int → Int → Int → Option (Int)
 | 0, _, _, _, _, _ => none
 | k + 1, x0, x7, x8, WR, WS => if x8 < x7 then (if 0 ≤ x8 then (if x8 < (x0.length : Int) then (if (WR == ((aa x0 x8).f0) && (WS == ((aa x0 x8).f1))) = true then (some x8) else (jM.l0 k x0 x7 (wrap64 (x8 + 1)) WR WS)) else (none)) else (none)) else (some (-1))
def jM.f (k : Nat) (l0 : List (aD)) (cB : Int) (dx : Int) : Option (Int) := jM.l0 k l0 (l0.length : Int) 0 cB dx
theorem jM.calls (k : Nat) (A0 : Option Addr) (c0 : Nat) (l0 : List (aD)) (cB : Int) (dx : Int) (r : Int) (w : World) (hr0 : Kd.C gm w A0 l0.length l0) (hc0 : l0.length ≤ c0) (h : jM.f k l0 cB dx = some r) :
 Calls Tryd.prog 87 #[.slice A0 l0.length c0, .agg #[.int .i64 cB, .int .i64 dx]] w fun e w' => e = .returned (.int .i64 r) ∧ Below w.heap.size w w' := by
 have wV := Tryd.underlying42; have uh := zA hr0; have EK := zA hc0; clear hr0 hc0; have HB := zA (Below.refl w.heap.size w); have H : (jM.l0 k l0 (l0.length : Int) 0 cB dx) = some r := h; clear h; have H' := zA H; clear H; go_enter Tryd.func87, Tryd.ntmps87; go_wp2_with (first | ((with_reducible refine aH (N := 3) rfl ?_); refine zX (N := 3) (cs := #[.int .i64 cB, .int .i64 dx]) (t := 42) ?_; intro abV hg w3 aG hb; have K4 := zA (aG); have ag0 := zA (zW hg HB); have ag1 := zA (zW hg HB); replace HB := zA (af (zB HB) hb); clear hb aG hg)); repeat (go_quiet (first | ((with_reducible refine aH (N := 3) rfl ?_); refine zX (N := 3) (cs := #[.int .i64 cB, .int .i64 dx]) (t := 42) ?_; intro abV hg w3 aG hb; have K4 := zA (aG); have ag0 := zA (zW hg HB); have ag1 := zA (zW hg HB); replace HB := zA (af (zB HB) hb); clear hb aG hg)); try go_wp2_with (first | ((with_reducible refine aH (N := 3) rfl ?_); refine zX (N := 3) (cs := #[.int .i64 cB, .int .i64 dx]) (t := 42) ?_; intro abV hg w3 aG hb; have K4 := zA (aG); have ag0 := zA (zW hg HB); have ag1 := zA (zW hg HB); replace HB := zA (af (zB HB) hb); clear hb aG hg)))
 go_loopg [8] k (fun kq v8 w' => ∃ (gu : Int), v8 = .int .i64 gu ∧ ag (jM.l0 kq l0 (l0.length : Int) gu cB dx = some r) ∧ ag (kq ≤ k) ∧ ag (w'.heap[abV]? = some (.cells #[.int .i64 cB, .int .i64 dx] 42 (0, 0))) ∧ ag (Below w.heap.size w w'))
 case atStart => exact ⟨(0), zv, H', ⟨Nat.le_refl _⟩, ⟨zK K4⟩, ⟨zB HB⟩⟩
 case round =>
  clear H'
  obtain ⟨gu, rfl, HA, iU, K4, HB⟩ := hrel; cases gk with
  | zero => exact absurd HA.out (by simp [jM.l0])
  | succ k1 =>
   have H := HA.out; clear HA; simp only [jM.l0] at H; by_cases c4 : gu < (l0.length : Int)
   · rw [if_pos c4] at H; have qU := decide_eq_true c4; clear c4; by_cases c5 : 0 ≤ gu
     · rw [if_pos c5] at H; have pM := decide_eq_true c5; clear c5; by_cases c6 : gu < (l0.length : Int)
       · rw [if_pos c6] at H; have yH := decide_eq_true c6; clear c6; by_cases c7 : (cB == ((aa l0 gu).f0) && (dx == ((aa l0 gu).f1))) = true
         · rw [if_pos c7] at H; have Am : (cB == ((aa l0 gu).f0) && (dx == ((aa l0 gu).f1))) = true := c7; (try (have OJ : decide (cB = ((aa l0 gu).f0) && (dx == ((aa l0 gu).f1))) = true := by simpa using c7)); (try (have aku : (cB == ((aa l0 gu).f0) && (dx == ((aa l0 gu).f1))) = true := by simpa using c7)); clear c7; obtain rfl := Option.some.inj H; obtain ⟨_, _, _, _⟩ := iG K4; have UG : 0 ≤ (gu : Int) := zo; have UH : gu < (l0.length : Int) := zo; obtain ⟨apr, akv, FN, FO⟩ := eG uh.out gu UG UH; cases akv; replace FN := (zx HB FN :); replace FO := (zx HB FO :); replace UG := eq_true UG; replace UH := eq_true UH; go_wp2; repeat (go_quiet (fail); try go_wp2)
           go_ret; exact ⟨ze, zB HB⟩
         · rw [if_neg c7] at H; have Am : (cB == ((aa l0 gu).f0) && (dx == ((aa l0 gu).f1))) = false := by simpa using c7
           (try (have OJ : decide (cB = ((aa l0 gu).f0) && (dx == ((aa l0 gu).f1))) = false := by simpa using c7)); (try (have aku : (cB == ((aa l0 gu).f0) && (dx == ((aa l0 gu).f1))) = false := by simpa using c7)); (try (have aCg : ¬ (cB = ((aa l0 gu).f0) && (dx == ((aa l0 gu).f1))) := by simpa using c7)); clear c7; have H' := zA H; clear H; obtain ⟨_, _, _, _⟩ := iG K4; have UG : 0 ≤ (gu : Int) := zo; have UH : gu < (l0.length : Int) := zo; obtain ⟨apr, akv, FN, FO⟩ := eG uh.out gu UG UH; cases akv; replace FN := (zx HB FN :); replace FO := (zx HB FO :); replace UG := eq_true UG; replace UH := eq_true UH; go_wp2; repeat (go_quiet (fail); try go_wp2)
           go_roundg k1
           case measure => have := iU.out; omega
           case rel => exact ⟨(wrap64 (gu + 1)), zv, H', ⟨by have := iU.out; omega⟩, ⟨zK K4⟩, ⟨zB HB⟩⟩
       · rw [if_neg c6] at H; exact absurd H (by simp)
     · rw [if_neg c5] at H; exact absurd H (by simp)
   · rw [if_neg c4] at H; have qU := decide_eq_false c4; clear c4; obtain rfl := Option.some.inj H; go_wp2; repeat (go_quiet (fail); try go_wp2)
     go_ret; exact ⟨ze, zB HB⟩
end Go.Proofs.YtjmdlmogdbhdhaaDoor.P
namespace Go.Proofs.YtjmdlmogdbhdhaaDoor.P
open Go.RowKit Go.Proofs.YtjmdlmogdbhdhaaDoorW.PrintWords Go.Proofs.YtjmdlmogdbhdhaaDoorW.PrintLast Go.Proofs.YtjmdlmogdbhdhaaDoorW.PrintMore
attribute [local go_sem] iI iJ jP jQ gH gI iK iL
set_option linter.unusedVariables false
set_option linter.unusedSimpArgs false
set_option maxHeartbeats 8000000
set_option maxRecDepth 100000
def vW.f (k : Nat) (l0 : List (aD)) (cB : Int) (dx : Int) : Option (Bool) := (jM.f k l0 cB dx).bind fun t237 => (some (decide (t237 ≥ 0)))
theorem vW.calls (k : Nat) (A0 : Option Addr) (c0 : Nat) (l0 : List (aD)) (cB : Int) (dx : Int) (r : Bool) (w : World) (hr0 : Kd.C gm w A0 l0.length l0) (hc0 : l0.length ≤ c0) (h : vW.f k l0 cB dx = some r) :
 Calls Tryd.prog 71 #[.slice A0 l0.length c0, .agg #[.int .i64 cB, .int .i64 dx]] w fun e w' => e = .returned (.bool r) ∧ Below w.heap.size w w' := by
 have wV := Tryd.underlying42; have uh := zA hr0; have EK := zA hc0; clear hr0 hc0; have HB := zA (Below.refl w.heap.size w); have H : ((jM.f k l0 cB dx).bind fun t237 => (some (decide (t237 ≥ 0)))) = some r := h; clear h; replace H := zE H; obtain ⟨t237, A3, H⟩ := H; (try dsimp only at H); obtain rfl := Option.some.inj H; go_enter Tryd.func71, Tryd.ntmps71; go_wp2_with (first | ((with_reducible refine aH (N := 3) rfl ?_); refine zX (N := 3) (cs := #[.int .i64 cB, .int .i64 dx]) (t := 42) ?_; intro azC hg w4 aG hb; have abW := zA (aG); have azD := zA (zW hg HB); have azE := zA (zW hg HB); replace HB := zA (af (zB HB) hb); clear hb aG hg; obtain ⟨_, _, _, _⟩ := iG abW) | ((with_reducible refine ay (f := 87) rfl ?_); refine zG (some 7) rfl Tryd.func87 #[.slice A0 l0.length c0, .agg #[.int .i64 cB, .int .i64 dx]] ?_; (with_reducible refine (jM.calls k _ _ l0 cB dx t237 _ ?aI ?aN A3.out).mono ?_); (case aI => exact jB uh HB); (case aN => exact EK.out); rintro e w6 ⟨rfl, hb⟩; refine ⟨_, rfl, ?_⟩; replace abW := zA (dn abW hb); replace HB := zA (af (zB HB) hb))); go_ret; exact ⟨ze, zB HB⟩
end Go.Proofs.YtjmdlmogdbhdhaaDoor.P
namespace Go.Proofs.YtjmdlmogdbhdhaaDoor.P
open Go.RowKit Go.Proofs.YtjmdlmogdbhdhaaDoorW.PrintWords Go.Proofs.YtjmdlmogdbhdhaaDoorW.PrintLast Go.Proofs.YtjmdlmogdbhdhaaDoorW.PrintMore
attribute [local go_sem] iI iJ jP jQ gH gI iK iL
set_option linter.unusedVariables false
set_option linter.unusedSimpArgs false
open Go.ChangeMaps (setBlock)
set_option maxHeartbeats 8000000
set_option maxRecDepth 100000
def ZH (x y : aD) : Bool := x.f0 == y.f0 && x.f1 == y.f1
theorem abX (x : aD) (l : List aD) (hl : l.length ≤ 9223372036854775807) : ∀ (n i : Nat), n + i = l.length → ∃ r, jM.l0 (n + 1) l (l.length : Int) (i : Int) x.f0 x.f1 = some r ∧ decide (r ≥ 0) = (l.drop i).any (ZH x)
 | 0, i, h => by
  refine ⟨-1, ?_, ?_⟩
  · unfold jM.l0
    rw [if_neg (by omega)]
  · rw [List.drop_eq_nil_of_le (by omega)]
    rfl
 | n + 1, i, h => by
  obtain ⟨r, h1, h2⟩ := abX x l hl n (i + 1) (by omega)
  have hd := JC l i (by omega)
  have hw : wrap64 ((i : Int) + 1) = ((i + 1 : Nat) : Int) := by unfold wrap64; omega
  unfold jM.l0
  rw [if_pos (by omega), if_pos (by omega), if_pos (by omega)]
  rw [hd, List.any_cons]
  by_cases he : ZH x (aa l i) = true
  · have he' := he
    unfold ZH at he'
    rw [if_pos he']
    exact ⟨_, rfl, by simp [he]⟩
  · have he' := he
    unfold ZH at he'
    rw [if_neg he', hw]
    exact ⟨r, h1, by simp [he, h2]⟩
theorem aps (x : aD) (l : List aD) (hl : l.length ≤ 9223372036854775807) : vW.f (l.length + 1) l x.f0 x.f1 = some (l.any (ZH x)) := by
 obtain ⟨r, h1, h2⟩ := abX x l hl l.length 0 (by simp); unfold vW.f jM.f; rw [show (0 : Int) = ((0 : Nat) : Int) from rfl, h1]; simpa using h2
set_option maxHeartbeats 1000000 in
theorem apt (gl : Nat) (A : Option Addr) (c : Nat) (l : List aD) (x : aD) (w : World) (hb : w.heap[gl]? = some (.cells #[.slice A l.length c] 22 (0, 0))) (hr : Kd.C gm w A l.length l) (hc : l.length ≤ c) :
 Calls Tryd.prog 70 #[.agg #[.int .i64 x.f0, .int .i64 x.f1], .pointer (some ⟨gl, 0, none⟩)] w fun e w' => e = .returned (.bool (!l.any (ZH x))) ∧ Below w.heap.size w w' := by
 have wV := Tryd.underlying42; have hl := hr.2.1; have HF := aps x l hl; have HR := zA hr; have HC := zA hc; clear hr hc hl; have hcz := (ai (je hb (.cells #[.int .i64 x.f0, .int .i64 x.f1] 42)) 0).trans (show _ = some (.slice A l.length c) from rfl); generalize l.any (ZH x) = b at HF ⊢; go_enter Tryd.func70, Tryd.ntmps70; go_wp2_with (go_at_call 71; go_must (refine (vW.calls _ _ _ l x.f0 x.f1 b _ (Kd.bu HR.out (bB (Below.refl _ _) _)) HC.out HF).mono ?_; rintro e w' ⟨rfl, hb'⟩)); go_ret; exact ⟨rfl, af (bB (Below.refl _ _) _) hb'⟩
set_option maxHeartbeats 2000000 in
theorem apu (gl : Nat) (p : aD → Bool) (A : Option Addr) (c : Nat) (l : List aD) (w : World) (hr : Kd.C gm w A l.length l) (hc : l.length ≤ c)
 (hp : ∀ W (x : aD), Below w.heap.size w W → Calls Tryd.prog 70 #[.agg #[.int .i64 x.f0, .int .i64 x.f1], .pointer (some ⟨gl, 0, none⟩)] W fun e w' => e = .returned (.bool (p x)) ∧ Below w.heap.size w w') :
 Calls Tryd.prog 86 #[.slice A l.length c, .func (.func 70) #[] #[.pointer (some ⟨gl, 0, none⟩)]] w fun e w' => ∃ r : Int, e = .returned (.int .i64 r) ∧ decide (r ≥ 0) = l.any p ∧ Below w.heap.size w w' := by
 have wV := Tryd.underlying42; have HR := zA hr; have HC := zA hc; have HP := zA hp; clear hr hc hp; go_enter Tryd.func86, Tryd.ntmps86; go_wp2; go_loopg [5, 8] l.length (fun kq _ v8 w' => ∃ i : Nat, v8 = .int .i64 i ∧ ag (kq + i = l.length) ∧ ag (Below w.heap.size w w') ∧ ag (l.any p = (l.drop i).any p))
 case atStart => exact ⟨0, rfl, ⟨rfl⟩, ⟨Below.refl _ _⟩, ⟨rfl⟩⟩
 case round =>
  obtain ⟨i, rfl, HI, HB, HA⟩ := hrel; cases gk with
  | zero =>
   have hi : i = l.length := by have := HI.out; omega
   subst hi; have hi1 : decide ((l.length : Int) < (l.length : Int)) = false := by simp
   have hi0 : decide (l.length < l.length) = false := by simp
   go_wp2; go_ret; exact ⟨-1, rfl, by rw [HA.out, List.drop_length]; rfl, HB.out⟩
  | succ k1 =>
   have hi : i < l.length := by have := HI.out; omega
   have hl : l.length ≤ 9223372036854775807 := HR.out.2.1; obtain ⟨ad, e0, hx0, hx1⟩ := eG (Kd.bu HR.out HB.out) (i : Int) (by omega) (by omega); simp only [Int.toNat_natCast] at hx0 hx1; have hi0 : decide (i < l.length) = true := decide_eq_true hi; have hi1 : decide ((i : Int) < (l.length : Int)) = true := decide_eq_true (by omega); cases e0; have HS := zA (JC l i hi); generalize aa l i = x at HS hx0 hx1; have hcall := HP.out wr x HB.out; cases hq : p x with
   | true =>
    rw [hq] at hcall; have HQ := zA hq; clear hq; go_wp2_with fail; refine hcall.mono ?_; rintro e w' ⟨rfl, hb'⟩; go_wp2; go_ret; exact ⟨(i : Int), rfl, by rw [HA.out, HS.out]; simp [HQ.out], hb'⟩
   | false =>
    rw [hq] at hcall; have HQ := zA hq; clear hq; go_wp2_with fail; refine hcall.mono ?_; rintro e w' ⟨rfl, hb'⟩; go_wp2; go_roundg k1
    case measure => omega
    case rel => exact ⟨i + 1, by go_num, ⟨by have := HI.out; omega⟩, ⟨hb'⟩, ⟨by rw [HA.out, HS.out]; simp [HQ.out]⟩⟩
set_option maxHeartbeats 2000000 in
theorem akw (gl : Nat) (p : aD → Bool) (A : Option Addr) (c : Nat) (l : List aD) (w : World) (hr : Kd.C gm w A l.length l) (hc : l.length ≤ c)
 (hp : ∀ W (x : aD), Below w.heap.size w W → Calls Tryd.prog 70 #[.agg #[.int .i64 x.f0, .int .i64 x.f1], .pointer (some ⟨gl, 0, none⟩)] W fun e w' => e = .returned (.bool (p x)) ∧ Below w.heap.size w w') :
 Calls Tryd.prog 69 #[.slice A l.length c, .func (.func 70) #[] #[.pointer (some ⟨gl, 0, none⟩)]] w fun e w' => e = .returned (.bool (l.any p)) ∧ Below w.heap.size w w' := by
 have HH := zA (apu gl p A c l w hr hc hp); clear hr hc hp; go_enter Tryd.func69, Tryd.ntmps69; go_wp2_with (go_at_call 86; refine HH.out.mono ?_; rintro e w' ⟨r, rfl, hr, hb'⟩); go_ret; exact ⟨by rw [← hr]; rfl, hb'⟩
set_option maxHeartbeats 2000000 in
theorem apv (gl : Nat) (A : Option Addr) (c : Nat) (l : List aD) (Ad : Option Addr) (cd : Nat) (d : List aD) (w : World) (hb : w.heap[gl]? = some (.cells #[.slice A l.length c] 22 (0, 0))) (hr : Kd.C gm w A l.length l) (hc : l.length ≤ c)
 (hrd : Kd.C gm w Ad d.length d) (hcd : d.length ≤ cd) :
 Calls Tryd.prog 68 #[.slice Ad d.length cd, .pointer (some ⟨gl, 0, none⟩)] w fun e w' => e = .returned (.bool (!d.any fun x => !l.any (ZH x))) ∧ Below w.heap.size w w' := by
 have HH := zA (akw gl (fun x => !l.any (ZH x)) Ad cd d w hrd hcd (fun W x hB => (apt gl A c l x W ((hB.block gl (jq hb)).trans hb) (Kd.bu hr hB) hc).mono (fun e w' h => ⟨h.1, af hB h.2⟩))); clear hb hr hc hrd hcd; go_enter Tryd.func68, Tryd.ntmps68; go_wp2_with (go_at_call 69; refine HH.out.mono ?_; rintro e w' ⟨rfl, hb'⟩); go_ret; exact ⟨rfl, hb'⟩
set_option maxHeartbeats 2000000 in
theorem apw (gl : Nat) (p : List aD → Bool) (A : Option Addr) (c : Nat) (l : List (List aD)) (w : World) (hr : Kd.C (Kd.slice 42 gm) w A l.length l) (hc : l.length ≤ c)
 (hp : ∀ W (Ad : Option Addr) (cd : Nat) (d : List aD), Below w.heap.size w W → Kd.C gm W Ad d.length d → d.length ≤ cd → Calls Tryd.prog 68 #[.slice Ad d.length cd, .pointer (some ⟨gl, 0, none⟩)] W fun e w' => e = .returned (.bool (p d)) ∧ Below w.heap.size w w') :
 Calls Tryd.prog 85 #[.slice A l.length c, .func (.func 68) #[] #[.pointer (some ⟨gl, 0, none⟩)]] w fun e w' => ∃ r : Int, e = .returned (.int .i64 r) ∧ decide (r ≥ 0) = l.any p ∧ Below w.heap.size w w' := by
 have HR := zA hr; have HC := zA hc; have HP := zA hp; clear hr hc hp; go_enter Tryd.func85, Tryd.ntmps85; go_wp2; go_loopg [5, 8] l.length (fun kq _ v8 w' => ∃ i : Nat, v8 = .int .i64 i ∧ ag (kq + i = l.length) ∧ ag (Below w.heap.size w w') ∧ ag (l.any p = (l.drop i).any p))
 case atStart => exact ⟨0, rfl, ⟨rfl⟩, ⟨Below.refl _ _⟩, ⟨rfl⟩⟩
 case round =>
  obtain ⟨i, rfl, HI, HB, HA⟩ := hrel; cases gk with
  | zero =>
   have hi : i = l.length := by have := HI.out; omega
   subst hi; have hi1 : decide ((l.length : Int) < (l.length : Int)) = false := by simp
   have hi0 : decide (l.length < l.length) = false := by simp
   go_wp2; go_ret; exact ⟨-1, rfl, by rw [HA.out, List.drop_length]; rfl, HB.out⟩
  | succ k1 =>
   have hi : i < l.length := by have := HI.out; omega
   have hl : l.length ≤ 9223372036854775807 := HR.out.2.1; obtain ⟨ad, Ad, cd, e0, hx0, hx1, hx2⟩ := Ec (Kd.bu HR.out HB.out) (i : Int) (by omega) (by omega); simp only [Int.toNat_natCast] at hx0; have hi0 : decide (i < l.length) = true := decide_eq_true hi; have hi1 : decide ((i : Int) < (l.length : Int)) = true := decide_eq_true (by omega); cases e0; have HS : ag (l.drop i = bC l i :: l.drop (i + 1)) := ⟨by rw [List.drop_eq_getElem_cons hi]; simp [bC, hi]⟩; generalize bC l i = x at HS hx0 hx1 hx2; have hcall := HP.out wr Ad cd x HB.out hx2 hx1; clear hx2 hx1; cases hq : p x with
   | true =>
    rw [hq] at hcall; have HQ := zA hq; clear hq; go_wp2_with fail; refine hcall.mono ?_; rintro e w' ⟨rfl, hb'⟩; go_wp2; go_ret; exact ⟨(i : Int), rfl, by rw [HA.out, HS.out]; simp [HQ.out], hb'⟩
   | false =>
    rw [hq] at hcall; have HQ := zA hq; clear hq; go_wp2_with fail; refine hcall.mono ?_; rintro e w' ⟨rfl, hb'⟩; go_wp2; go_roundg k1
    case measure => omega
    case rel => exact ⟨i + 1, by go_num, ⟨by have := HI.out; omega⟩, ⟨hb'⟩, ⟨by rw [HA.out, HS.out]; simp [HQ.out]⟩⟩
def Rv (all : List (List aD)) (l : List aD) : Bool := all.any fun d => !d.any fun x => !l.any (ZH x)
set_option maxHeartbeats 2000000 in
theorem akx (gl : Nat) (A : Option Addr) (c : Nat) (l : List aD) (Aa : Option Addr) (ca : Nat) (all : List (List aD)) (w : World) (hb : w.heap[gl]? = some (.cells #[.slice A l.length c] 22 (0, 0))) (hr : Kd.C gm w A l.length l) (hc : l.length ≤ c)
 (hra : Kd.C (Kd.slice 42 gm) w Aa all.length all) (hca : all.length ≤ ca) :
 Calls Tryd.prog 67 #[.slice Aa all.length ca, .func (.func 68) #[] #[.pointer (some ⟨gl, 0, none⟩)]] w fun e w' => e = .returned (.bool (Rv all l)) ∧ Below w.heap.size w w' := by
 have HH := zA (apw gl (fun d => !d.any fun x => !l.any (ZH x)) Aa ca all w hra hca (fun W Ad cd d hB h1 h2 => (apv gl A c l Ad cd d W ((hB.block gl (jq hb)).trans hb) (Kd.bu hr hB) hc h1 h2).mono (fun e w' h => ⟨h.1, af hB h.2⟩))); clear hb hr hc hra hca; go_enter Tryd.func67, Tryd.ntmps67; go_wp2_with (go_at_call 85; refine HH.out.mono ?_; rintro e w' ⟨r, rfl, hr, hb'⟩); go_ret; exact ⟨by unfold Rv; rw [← hr]; rfl, hb'⟩
def Dl : List aD → List (aD × Bool) → Option (List (aD × Bool))
 | [], m => some m
 | p :: r, m => if pq m p = true then none else Dl r (lU m p true)
def FP : List (List aD) → List (aD × Bool) → Option (List (aD × Bool))
 | [], m => some m
 | l :: r, m => (Dl l m).bind fun m2 => FP r m2
def kW.f (k : Nat) (au : Int) (ah : List aD) (a1 : Int) (lW : List Int) (pG : List aD) (iN : List (List aD)) : Option Bool :=
 if iN.length = pG.length then (match FP iN [] with | none => some false | some _ => (aM.f k au ah lW a1).bind fun all => some (iN.all (Rv all))) else some false
theorem kW.calls (k : Nat) (au : Int) (aZ : Option Addr) (aW : Nat) (ah : List aD) (a1 : Int) (r9 : Option Addr) (si : Nat) (lW : List Int) (uK : Option Addr) (uL : Nat) (pG : List aD) (wF : Option Addr) (vX : Nat) (iN : List (List aD)) (r : Bool) (w : World) (eY : Kd.C gm w aZ ah.length ah) (eZ : ah.length ≤ aW) (Rw : Kd.C (Kd.int .i64) w r9 lW.length lW) (Rx : lW.length ≤ si) (WT : Kd.C gm w uK pG.length pG) (WU : pG.length ≤ uL) (Ry : Kd.C (Kd.slice 42 gm) w wF iN.length iN) (Rz : iN.length ≤ vX) (hT : kQ w) (h : kW.f k au ah a1 lW pG iN = some r) :
 Calls Tryd.prog 39 #[.agg #[.int .i64 au, .slice aZ ah.length aW], .int .i64 a1, .agg #[.slice r9 lW.length si, .slice uK pG.length uL, .slice wF iN.length vX]] w fun e w' => e = .returned (.bool r) ∧ Below w.heap.size w w' := by
 have uk := Tryd.underlying24; have Mo := Tryd.underlying28; have wV := Tryd.underlying42; have lM := zA hT; have uh := zA eY; have EK := zA eZ; have auV := zA Rw; have auW := zA Rx; have aeX := zA Ry; have aCh := zA Rz; clear eY eZ Rw Rx WT WU Ry Rz hT; have HY := zA h; clear h; go_enter Tryd.func39, Tryd.ntmps39; by_cases hlen : iN.length = pG.length
 case neg =>
  have HY2 := HY.out; unfold kW.f at HY2; rw [if_neg hlen] at HY2; obtain rfl := Option.some.inj HY2; have hn1 : decide (iN.length = pG.length) = false := decide_eq_false hlen; have hn2 : ¬ ((iN.length : Int) = (pG.length : Int)) := by omega
  go_wp2; go_ret; exact ⟨rfl, bB (bB (Below.refl _ _) _) _⟩
 case pos =>
  have HY2 := HY.out; unfold kW.f at HY2; rw [if_pos hlen] at HY2; clear HY; have HY := zA HY2; clear HY2; have hn1 : pG.length = iN.length := hlen.symm; clear hlen; have hmm := @run_makeMap Tryd.prog; go_upto_region 4 with (fail)
  clear hmm hn1
  have T0 : TW w ((w.alloc (.cells #[.int .i64 au, .slice aZ ah.length aW] 24)).alloc (.cells #[.slice r9 lW.length si, .slice uK iN.length uL, .slice wF iN.length vX] 28)) w.heap.size (w.heap.size + 1) (.cells #[.int .i64 au, .slice aZ ah.length aW] 24 (0, 0)) (.cells #[.slice r9 lW.length si, .slice uK iN.length uL, .slice wF iN.length vX] 28 (0, 0)) :=
   ⟨bB (bB (Below.refl _ _) _) _, je (lC w _) _, by have := lC (w.alloc (.cells #[.int .i64 au, .slice aZ ah.length aW] 24)) (.cells #[.slice r9 lW.length si, .slice uK iN.length uL, .slice wF iN.length vX] 28 (0, 0)); simpa using this⟩
  have M0 : jK (((w.alloc (.cells #[.int .i64 au, .slice aZ ah.length aW] 24)).alloc (.cells #[.slice r9 lW.length si, .slice uK iN.length uL, .slice wF iN.length vX] 28)).alloc (.map #[] 0)) (w.heap.size + 1 + 1) [] := by
   have := lC ((w.alloc (.cells #[.int .i64 au, .slice aZ ah.length aW] 24)).alloc (.cells #[.slice r9 lW.length si, .slice uK iN.length uL, .slice wF iN.length vX] 28)) (.map #[] 0); simpa [jK, qH] using this
  have T2 := zA (T0.alloc (.map #[] 0)); have M2 := zA M0; clear T0 M0; have BM : ag (w.heap.size ≤ w.heap.size + 1 + 1) := ⟨by omega⟩; have BN : ag (w.heap.size + 1 + 1 ≠ w.heap.size) := ⟨by omega⟩; have BR : ag (w.heap.size + 1 + 1 ≠ w.heap.size + 1) := ⟨by omega⟩; generalize (((w.alloc (.cells #[.int .i64 au, .slice aZ ah.length aW] 24)).alloc (.cells #[.slice r9 lW.length si, .slice uK iN.length uL, .slice wF iN.length vX] 28)).alloc (.map #[] 0)) = w2 at T2 M2 ⊢; generalize w.heap.size + 1 + 1 = bm at M2 BM BN BR ⊢; generalize w.heap.size + 1 = gr at T2 BR ⊢; generalize hgb : w.heap.size = gb at T2 BN ⊢; clear hgb; have tY : w2.cell? ⟨gr, 2, none⟩ = some (.slice wF iN.length vX) := (ai T2.out.br 2).trans rfl; go_wp2_with fail; clear tY; go_loopg [26] iN.length (fun kq v26 w' => ∃ (i : Nat) (m : List (aD × Bool)), v26 = .int .i64 i ∧ ag (kq + i = iN.length) ∧ ag (TW w w' gb gr (.cells #[.int .i64 au, .slice aZ ah.length aW] 24 (0, 0)) (.cells #[.slice r9 lW.length si, .slice uK iN.length uL, .slice wF iN.length vX] 28 (0, 0))) ∧ ag (jK w' bm m) ∧ ag (FP (iN.drop i) m = FP iN []))
  case atStart => exact ⟨0, [], rfl, ⟨rfl⟩, T2, M2, ⟨rfl⟩⟩
  case round =>
   clear T2 M2; obtain ⟨i, m, rfl, HI, T2, M2, HA⟩ := hrel; cases gk with
   | succ k1 =>
    have hi : i < iN.length := by have := HI.out; omega
    have hl : iN.length ≤ 9223372036854775807 := aeX.out.2.1; obtain ⟨ad, Ad, cd, e0, hx0, hx1, hx2⟩ := Ec aeX.out (i : Int) (by omega) (by omega); simp only [Int.toNat_natCast] at hx0; have hi0 : decide (i < iN.length) = true := decide_eq_true hi; have hi1 : decide ((i : Int) < (iN.length : Int)) = true := decide_eq_true (by omega); cases e0; have HS : ag (iN.drop i = bC iN i :: iN.drop (i + 1)) := ⟨by rw [List.drop_eq_getElem_cons hi]; simp [bC, hi]⟩; generalize bC iN i = l at HS hx0 hx1 hx2; replace hx0 := (T2.out.hb.cell (World.block_lt_of_cell? w _ hx0)).trans hx0; have HX2 := zA hx2; have hll : l.length ≤ 9223372036854775807 := hx2.2.1; have HLL := zA hll; clear hx2 hx1 hll; rw [HS.out] at HA; go_wp2_with fail; clear hx0 hi0 hi1; go_loopg [32] l.length (fun kq v32 w' => ∃ (j : Nat) (m2 : List (aD × Bool)), v32 = .int .i64 j ∧ ag (kq + j = l.length) ∧ ag (TW w w' gb gr (.cells #[.int .i64 au, .slice aZ ah.length aW] 24 (0, 0)) (.cells #[.slice r9 lW.length si, .slice uK iN.length uL, .slice (some ad) iN.length vX] 28 (0, 0))) ∧ ag (jK w' bm m2) ∧ ag (((Dl (l.drop j) m2).bind fun m3 => FP (iN.drop (i + 1)) m3) = FP iN []))
    case atStart => exact ⟨0, m, rfl, ⟨rfl⟩, T2, M2, HA⟩
    case round =>
     clear T2 M2 HA; obtain ⟨j, m2, rfl, HJ, T2, M2, HA⟩ := hrel; cases gk with
     | succ kj =>
      have hj : j < l.length := by have := HJ.out; omega
      have hl : l.length ≤ 9223372036854775807 := HLL.out; obtain ⟨ad2, e1, hy0, hy1⟩ := eG (Kd.bu HX2.out T2.out.hb) (j : Int) (by omega) (by omega); simp only [Int.toNat_natCast] at hy0 hy1; have hj0 : decide (j < l.length) = true := decide_eq_true hj; have hj1 : decide ((j : Int) < (l.length : Int)) = true := decide_eq_true (by omega); cases e1; have HSJ := zA (JC l j hj); go_upto_region 10 with (fail)
      have T3 := zA (T2.out.alloc (.cells #[.int .i64 (aa l j).f0, .int .i64 (aa l j).f1] 42)); have M3 := zA (M2.out.alloc (.cells #[.int .i64 (aa l j).f0, .int .i64 (aa l j).f1] 42)); have P3 := zA (lC wr (.cells #[.int .i64 (aa l j).f0, .int .i64 (aa l j).f1] 42 (0, 0))); have PB : ag (wr.heap.size ≠ bm) := ⟨Nat.ne_of_gt (jq M2.out)⟩; clear T2 M2 hy0 hy1; generalize wr.alloc (.cells #[.int .i64 (aa l j).f0, .int .i64 (aa l j).f1] 42) = w3 at T3 M3 P3 ⊢; generalize wr.heap.size = gp at P3 PB ⊢; generalize aa l j = p at HSJ P3 ⊢; have uU := zc P3 0; have hcz2 := zc P3 1; have hlk := Bl M3.out p; simp only [uJ] at hlk; rw [HSJ.out] at HA; cases hm : pq m2 p with
      | true =>
       rw [hm] at hlk; have HX := HY.out; rw [← HA.out] at HX; simp only [Dl, hm, if_true, Option.bind_none] at HX; obtain rfl := Option.some.inj HX; clear HX; go_wp2; go_ret; exact ⟨rfl, T3.out.hb⟩
      | false =>
       rw [hm] at hlk; go_upto_region 12 with (fail)
       have aaD := Bn M3.out p true; simp only [uJ] at aaD; have M4 := zA (M3.out.put (lU m2 p true)); have T4 := zA (T3.out.aay (.map (qH (lU m2 p true) 0).toArray (lU m2 p true).length) BM.out BN.out BR.out); clear T3 M3 P3; simp only [Dl, hm, if_neg Bool.false_ne_true] at HA; generalize setBlock w3 bm (.map (qH (lU m2 p true) 0).toArray (lU m2 p true).length) = w5 at aaD T4 M4; clear hlk; go_wp2; go_roundg kj
       case measure => omega
       case rel => exact ⟨j + 1, _, by go_num, ⟨by have := HJ.out; omega⟩, T4, M4, HA⟩
     | zero =>
      have hj : j = l.length := by have := HJ.out; omega
      subst hj; rw [List.drop_length] at HA; simp only [Dl, Option.bind_some] at HA; have hj1 : decide ((l.length : Int) < (l.length : Int)) = false := by simp
      have hj0 : decide (l.length < l.length) = false := by simp
      go_wp2; go_roundg k1
      case measure => omega
      case rel => exact ⟨i + 1, m2, by go_num, ⟨by have := HI.out; omega⟩, T2, M2, HA⟩
   | zero =>
    have hi : i = iN.length := by have := HI.out; omega
    subst hi; rw [List.drop_length] at HA; simp only [FP] at HA; have HX := HY.out; rw [← HA.out] at HX; clear HY HA; obtain ⟨all, hD, HX⟩ := Option.bind_eq_some_iff.1 HX; have HD := zA hD; have HX := zA (Option.some.inj HX); clear hD M2; have hi1 : decide ((iN.length : Int) < (iN.length : Int)) = false := by simp
    have hi0 : decide (iN.length < iN.length) = false := by simp
    have tY : wr.cell? ⟨gb, 0, none⟩ = some (.int .i64 au) := (ai T2.out.bg 0).trans rfl; have uU : wr.cell? ⟨gb, 1, none⟩ = some (.slice aZ ah.length aW) := (ai T2.out.bg 1).trans rfl; have hcz2 : wr.cell? ⟨gr, 0, none⟩ = some (.slice r9 lW.length si) := (ai T2.out.br 0).trans rfl; go_wp2_with fail; refine (aM.calls k au _ _ ah _ _ lW a1 all wr (Kd.bu uh.out T2.out.hb) EK.out (Kd.bu auV.out T2.out.hb) auW.out (kQ.now lM.out T2.out.hb) HD.out).mono ?_; rintro e wz ⟨va, rfl, hs, hb⟩; obtain ⟨Aa, ca, hva, hca, hra⟩ := Kd.adF hs; subst hva; have HRA := zA hra; have HCA := zA hca; have T3 := zA (T2.out.step hb); have HZ : ag (Below wz.heap.size wz wz) := ⟨Below.refl _ _⟩; clear hra hca T2 hs hb tY uU hcz2 HD hi0 hi1; have hcz2 : wz.cell? ⟨gr, 2, none⟩ = some (.slice wF iN.length vX) := (ai T3.out.br 2).trans rfl; go_wp2_with fail; clear hcz2; go_loopg [51] iN.length (fun kq v51 w' => ∃ (i : Nat), v51 = .int .i64 i ∧ ag (kq + i = iN.length) ∧ ag (TW w w' gb gr (.cells #[.int .i64 au, .slice aZ ah.length aW] 24 (0, 0)) (.cells #[.slice r9 lW.length si, .slice uK iN.length uL, .slice wF iN.length vX] 28 (0, 0))) ∧ ag (Below wz.heap.size wz w') ∧ ag ((iN.drop i).all (Rv all) = r))
    case atStart => exact ⟨0, rfl, ⟨rfl⟩, T3, HZ, HX⟩
    case round =>
     clear T3 HZ HX HI; obtain ⟨i, rfl, HI, T3, HZ, HX⟩ := hrel; cases gk with
     | succ k1 =>
      have hi : i < iN.length := by have := HI.out; omega
      have hl : iN.length ≤ 9223372036854775807 := aeX.out.2.1; obtain ⟨ad, Ad, cd, e0, hx0, hx1, hx2⟩ := Ec aeX.out (i : Int) (by omega) (by omega); simp only [Int.toNat_natCast] at hx0; have hi0 : decide (i < iN.length) = true := decide_eq_true hi; have hi1 : decide ((i : Int) < (iN.length : Int)) = true := decide_eq_true (by omega); cases e0; have HS : ag (iN.drop i = bC iN i :: iN.drop (i + 1)) := ⟨by rw [List.drop_eq_getElem_cons hi]; simp [bC, hi]⟩; generalize bC iN i = l at HS hx0 hx1 hx2; replace hx0 := (T3.out.hb.cell (World.block_lt_of_cell? w _ hx0)).trans hx0; have HX2 := zA hx2; have HX1 := zA hx1; clear hx2 hx1; go_upto_region 19 with (fail)
      have T4 := zA (T3.out.alloc (.cells #[.slice Ad l.length cd] 22)); have Z4 := zA (bB HZ.out (.cells #[.slice Ad l.length cd] 22)); have P4 := zA (lC wr (.cells #[.slice Ad l.length cd] 22 (0, 0))); clear T3 HZ hx0; generalize wr.alloc (.cells #[.slice Ad l.length cd] 22) = w4 at T4 Z4 P4 ⊢; generalize wr.heap.size = gl at P4 ⊢; go_wp2_with fail; refine (akx gl Ad cd l Aa ca all w4 P4.out (Kd.bu HX2.out T4.out.hb) HX1.out (Kd.bu HRA.out Z4.out) HCA.out).mono ?_; rintro e w5 ⟨rfl, hb⟩; have T5 := zA (T4.out.step hb); have Z5 := zA (af Z4.out hb); clear T4 Z4 P4 hb; rw [HS.out, List.all_cons] at HX; cases hq : Rv all l with
      | false =>
       rw [hq, Bool.false_and] at HX; obtain rfl := HX.out; go_wp2; go_ret; exact ⟨rfl, T5.out.hb⟩
      | true =>
       rw [hq, Bool.true_and] at HX; go_wp2; go_roundg k1
       case measure => omega
       case rel => exact ⟨i + 1, by go_num, ⟨by have := HI.out; omega⟩, T5, Z5, HX⟩
     | zero =>
      have hi : i = iN.length := by have := HI.out; omega
      subst hi; rw [List.drop_length] at HX; obtain rfl := HX.out; have hi1 : decide ((iN.length : Int) < (iN.length : Int)) = false := by simp
      have hi0 : decide (iN.length < iN.length) = false := by simp
      go_wp2; go_ret; exact ⟨rfl, T3.out.hb⟩
end Go.Proofs.YtjmdlmogdbhdhaaDoor.P
namespace Go.Proofs.YtjmdlmogdbhdhaaDoor.P
open Go.RowKit Go.Proofs.YtjmdlmogdbhdhaaDoorW.PrintWords Go.Proofs.YtjmdlmogdbhdhaaDoorW.PrintLast Go.Proofs.YtjmdlmogdbhdhaaDoorW.PrintMore
theorem Nw : ∀ (l : List aD) (m : List (aD × Bool)), l.Nodup → (∀ p ∈ l, pq m p = false) → ∃ m2, Dl l m = some m2 ∧ ∀ q, pq m2 q = (pq m q || decide (q ∈ l))
  | [], m, _, _ => ⟨m, rfl, fun q => by simp⟩
  | p :: r, m, hn, hm => by
    rw [List.nodup_cons] at hn
    obtain ⟨m2, e, h⟩ := Nw r (lU m p true) hn.2 (fun q hq => by
      rw [uV, if_neg (by rintro rfl; exact hn.1 hq)]
      exact hm q (by simp [hq]))
    refine ⟨m2, ?_, fun q => ?_⟩
    · simp only [Dl, hm p (by simp), Bool.false_eq_true, if_false]
      exact e
    · rw [h, uV]
      by_cases hq : q = p
      · simp [hq]
      · simp [hq]
theorem RA : ∀ (ls : List (List aD)) (m : List (aD × Bool)), ls.flatten.Nodup → (∀ p ∈ ls.flatten, pq m p = false) → ∃ m2, FP ls m = some m2
  | [], m, _, _ => ⟨m, rfl⟩
  | l :: r, m, hn, hm => by
    rw [List.flatten_cons, List.nodup_append] at hn
    obtain ⟨m2, e, h⟩ := Nw l m hn.1 (fun p hp => hm p (by simp [hp]))
    obtain ⟨m3, e3⟩ := RA r m2 hn.2.1 (fun p hp => by
      rw [h, hm p (by rw [List.flatten_cons]; exact List.mem_append_right _ hp), decide_eq_false (fun hl => hn.2.2 p hl p hp rfl)]
      rfl)
    exact ⟨m3, by simp only [FP, e, Option.bind_some]; exact e3⟩
theorem Zi {all : List (List aD)} {l : List aD} (h : l ∈ all) : Rv all l = true := by
  unfold Rv
  rw [List.any_eq_true]
  refine ⟨l, h, ?_⟩
  rw [Bool.not_eq_true', Bool.eq_false_iff]
  intro hh
  obtain ⟨x, hx, hn⟩ := List.any_eq_true.1 hh
  rw [Bool.not_eq_true', Bool.eq_false_iff] at hn
  exact hn (List.any_eq_true.2 ⟨x, hx, by simp [ZH]⟩)
theorem K5 {L : List aD} {s : List Int} {N : Int} (hs : mD N s) (kind : Int) {a : Nat} (ha : ¬ (a : Int) ∈ s) (qb : ∀ x ∈ s, 0 ≤ x ∧ x < 64) : (wC L s kind a).Nodup := by
  unfold wC
  rw [(yo _).nodup_iff]
  unfold Uz
  rw [List.nodup_append]
  refine ⟨?_, ?_, ?_⟩
  · rw [List.nodup_iff_pairwise_ne, List.pairwise_map]
    exact hs.2.imp fun h e => by injection e with e1; omega
  · split
    · rw [List.nodup_iff_pairwise_ne, List.pairwise_map]
      exact (Bp _).imp fun h e => by injection e with _ e1; omega
    · simp
  · intro p hp q hq
    rintro rfl
    obtain ⟨x, hx, rfl⟩ := List.mem_map.1 hp
    have h1 := (Rt L s qb kind a ⟨x, (a : Int)⟩).1 (by unfold Uz; exact List.mem_append_right _ hq)
    split at hq
    · obtain ⟨y, hy, e⟩ := List.mem_map.1 hq
      injection e with e1 e2
      exact ha (by rw [e1]; exact hx)
    · cases hq
theorem K6 {L : List aD} {s : List Int} (qb : ∀ x ∈ s, 0 ≤ x ∧ x < 64) {kind : Int} {a : Nat} {p : aD} (hp : p ∈ wC L s kind a) : (p.f0 ∈ s ∧ p.f1 = a) ∨ (p.f0 = a ∧ p.f1 ∈ s) := by
  rcases (AL L s qb kind a p).1 hp with h | ⟨_, h1, h2, _⟩
  · exact .inl h
  · exact .inr ⟨h1, h2⟩
theorem K7 {L : List aD} {s : List Int} (qb : ∀ x ∈ s, 0 ≤ x ∧ x < 64) (kind : Int) : ∀ n i, (vV L s kind n i).Pairwise (fun d e => ∀ x ∈ d, ∀ y ∈ e, x ≠ y)
  | 0, i => by simp [vV]
  | n + 1, i => by
    have ih := K7 qb kind (L := L) n (i + 1)
    simp only [vV]
    by_cases hsk : Ew L s kind i = true
    · rw [if_pos hsk]; exact ih
    · rw [if_neg hsk, List.pairwise_cons]
      refine ⟨fun e he x hx y hy => ?_, ih⟩
      obtain ⟨b, hb1, _, hbs, rfl⟩ := (Dk L s kind e _ _).1 he
      have hi := vI (show Ew L s kind i = false by simpa using hsk)
      have hb := vI hbs
      rintro rfl
      rcases K6 qb hx with ⟨h1, h2⟩ | ⟨h1, h2⟩ <;> rcases K6 qb hy with ⟨h3, h4⟩ | ⟨h3, h4⟩
      · omega
      · rw [h2] at h4; exact hi h4
      · rw [h1] at h3; exact hi h3
      · omega
theorem abY {N : Int} {L : List aD} (hG : jd N L) {s : List Int} (hs : mD N s) (kind : Int) : (qA N L s kind).flatten.Nodup := by
  have hN2 := hG.n1
  have qb : ∀ x ∈ s, 0 ≤ x ∧ x < 64 := fun x hx => by have := hs.1 x hx; omega
  rw [List.nodup_iff_pairwise_ne, List.pairwise_flatten]
  constructor
  · intro d hd
    rw [← List.nodup_iff_pairwise_ne]
    rcases (xm hG.n0 L s kind d).1 hd with ⟨p, _, _, _, rfl⟩ | ⟨a, _, hsk, rfl⟩
    · simp
    · exact K5 hs kind (vI hsk) qb
  · unfold qA
    rw [List.pairwise_append]
    refine ⟨?_, K7 qb kind _ _, fun d hd e he x hx y hy => ?_⟩
    · unfold D5
      rw [List.pairwise_map]
      have := List.Nodup.sublist (List.filter_sublist (p := fun p => zJ s p.f0 && zJ s p.f1)) (DI hG.ord)
      refine (List.nodup_iff_pairwise_ne.1 this).imp fun h x hx y hy => ?_
      rw [List.mem_singleton.1 hx, List.mem_singleton.1 hy]
      exact h
    · obtain ⟨p, _, h0, h1, rfl⟩ := (Rs L s d).1 hd
      obtain ⟨a, _, _, hsk, rfl⟩ := (Dk L s kind e _ _).1 he
      obtain rfl := List.mem_singleton.1 hx
      rintro rfl
      rcases K6 qb hy with ⟨_, h2⟩ | ⟨h2, _⟩
      · exact vI hsk (by rw [← h2]; exact h1)
      · exact vI hsk (by rw [← h2]; exact h0)
theorem Zj {N : Int} {L : List aD} (hG : jd N L) {s : List Int} (hs : mD N s) (kind : Int) : Ev (fun k => kW.f k N L kind s (EM N L s kind) (qA N L s kind)) true := by
  obtain ⟨m, e⟩ := RA (qA N L s kind) [] (abY hG hs kind) (fun _ _ => rfl)
  simp only [kW.f]
  refine Ev.pos (by unfold EM; rw [List.length_map]) ?_
  rw [e]
  refine Ev.bind (Ia hG hs kind) ?_
  have : (qA N L s kind).all (Rv (qA N L s kind)) = true := List.all_eq_true.2 fun l hl => Zi hl
  rw [this]
  exact Ev.const _
end Go.Proofs.YtjmdlmogdbhdhaaDoor.P
namespace Go.Proofs.YtjmdlmogdbhdhaaDoor.P
open Go.RowKit Go.Proofs.YtjmdlmogdbhdhaaDoorW.PrintWords Go.Proofs.YtjmdlmogdbhdhaaDoorW.PrintLast Go.Proofs.YtjmdlmogdbhdhaaDoorW.PrintMore
attribute [local go_sem] iI iJ jP jQ gH gI iK iL
set_option linter.unusedVariables false
set_option linter.unusedSimpArgs false
set_option maxHeartbeats 8000000
set_option maxRecDepth 100000
def lQ.f (k : Nat) (au : Int) (ah : List (aD)) (a1 : Int) (lW : List Int) (pG : List (aD)) (iN : List (List (aD))) : Option (Int) := (bK.f k au ah lW a1).bind fun t240 => (if t240 = 0 then ((gB.f k au ah pG).bind fun FQ => (if FQ.2.2 = 0 then ((jy.f k FQ.1 FQ.2.1 lW a1).bind fun t247 => (if t247 = true then ((kW.f k au ah a1 lW pG iN).bind fun t248 => (if t248 = true then (some 0) else (some 11))) else (some 7))) else (some FQ.2.2))) else (some t240))
theorem lQ.calls (k : Nat) (au : Int) (aZ : Option Addr) (aW : Nat) (ah : List (aD)) (a1 : Int) (r9 : Option Addr) (si : Nat) (lW : List Int) (uK : Option Addr) (uL : Nat) (pG : List (aD)) (wF : Option Addr) (vX : Nat) (iN : List (List (aD))) (r : Int) (w : World) (eY : Kd.C gm w aZ ah.length ah) (eZ : ah.length ≤ aW) (Rw : Kd.C (Kd.int .i64) w r9 lW.length lW) (Rx : lW.length ≤ si) (WT : Kd.C gm w uK pG.length pG) (WU : pG.length ≤ uL) (Ry : Kd.C (Kd.slice 42 gm) w wF iN.length iN) (Rz : iN.length ≤ vX) (hT : kQ w) (h : lQ.f k au ah a1 lW pG iN = some r) :
 Calls Tryd.prog 17 #[.agg #[.int .i64 au, .slice aZ ah.length aW], .int .i64 a1, .agg #[.slice r9 lW.length si, .slice uK pG.length uL, .slice wF iN.length vX]] w fun e w' => e = .returned (.int .i64 r) ∧ Below w.heap.size w w' := by
 have uk := Tryd.underlying24; have Mo := Tryd.underlying28; have cz := zA eY; have dX := zA eZ; clear eY eZ; have Eh := zA Rw; have Ei := zA Rx; clear Rw Rx; have Ny := zA WT; have Nz := zA WU; clear WT WU; have ag4 := zA Ry; have ag5 := zA Rz; clear Ry Rz; have lM := zA hT; clear hT; have HB := zA (Below.refl w.heap.size w); have H : ((bK.f k au ah lW a1).bind fun t240 => (if t240 = 0 then ((gB.f k au ah pG).bind fun FQ => (if FQ.2.2 = 0 then ((jy.f k FQ.1 FQ.2.1 lW a1).bind fun t247 => (if t247 = true then ((kW.f k au ah a1 lW pG iN).bind fun t248 => (if t248 = true then (some 0) else (some 11))) else (some 7))) else (some FQ.2.2))) else (some t240))) = some r := h; clear h; replace H := zE H; obtain ⟨t240, A4, H⟩ := H; (try dsimp only at H); by_cases c5 : t240 = 0
 · rw [if_pos c5] at H; have pM : (t240 == 0) = true := beq_iff_eq.mpr c5; have yh : (t240 != 0) = false := bne_eq_false_iff_eq.mpr c5; clear c5; replace H := Option.bind_eq_some_iff.mp H; obtain ⟨⟨t241, t242, t245⟩, A60, H⟩ := H; (try dsimp only at H); have A6 := zA A60; clear A60; by_cases c7 : t245 = 0
   · rw [if_pos c7] at H; have Am : (t245 == 0) = true := beq_iff_eq.mpr c7; have OJ : (t245 != 0) = false := bne_eq_false_iff_eq.mpr c7; clear c7; replace H := zE H; obtain ⟨t247, A8, H⟩ := H; (try dsimp only at H); by_cases c9 : t247 = true
     · subst c9; rw [if_pos rfl] at H; replace H := zE H; obtain ⟨t248, A10, H⟩ := H; (try dsimp only at H); by_cases c11 : t248 = true
       · subst c11; rw [if_pos rfl] at H; obtain rfl := Option.some.inj H; go_enter Tryd.func17, Tryd.ntmps17; go_wp2_with (first | ((with_reducible refine aH (N := 3) rfl ?_); refine zX (N := 3) (cs := #[.int .i64 au, .slice aZ ah.length aW]) (t := 24) ?_; intro K8 hg Tz aG hb; have fK := zA (aG); have WV := zA (zW hg HB); have WW := zA (zW hg HB); replace HB := zA (af (zB HB) hb); clear hb aG hg) | ((with_reducible refine aH (N := 5) rfl ?_); refine zX (N := 5) (cs := #[.slice r9 lW.length si, .slice uK pG.length uL, .slice wF iN.length vX]) (t := 28) ?_; intro K9 hg Tw aG hb; have iC := zA (aG); have WX := zA (zW hg HB); have WY := zA (zW hg HB); have rD := zA (lZ hg fK); have rE := zA (l5 hg fK); replace fK := zA (dn fK hb); replace HB := zA (af (zB HB) hb); clear hb aG hg; have Kq := rD.out; have Kr := rE.out; obtain ⟨_, _, _, _⟩ := iG fK; obtain ⟨_, _, _, _, _, _⟩ := nG iC) | ((with_reducible refine ay (f := 37) rfl ?_); refine zG (some 14) rfl Tryd.func37 #[.agg #[.int .i64 au, .slice aZ ah.length aW], .slice r9 lW.length si, .int .i64 a1] ?_; (with_reducible refine (bK.calls k au _ _ ah _ _ lW a1 t240 _ ?aI ?aN ?bS ?bT A4.out).mono ?_); (case aI => exact jB cz HB); (case aN => exact dX.out); (case bS => exact jB Eh HB); (case bT => exact Ei.out); rintro e w17 ⟨rfl, hb⟩; refine ⟨_, rfl, ?_⟩; replace fK := zA (dn fK hb); replace iC := zA (dn iC hb); replace HB := zA (af (zB HB) hb); obtain ⟨_, _, _, _⟩ := iG fK; obtain ⟨_, _, _, _, _, _⟩ := nG iC) | ((with_reducible refine ay (f := 21) rfl ?_); refine zG (some 22) rfl Tryd.func21 #[.agg #[.int .i64 au, .slice aZ ah.length aW], .slice uK pG.length uL] ?_; (with_reducible refine (gB.calls k au _ _ ah _ _ pG t241 t242 t245 _ ?aI ?aN ?bS ?bT A6.out).mono ?_); (case aI => exact jB cz HB); (case aN => exact dX.out); (case bS => exact jB Ny HB); (case bT => exact Nz.out); rintro e w20 ⟨aky, rfl, ho0, hb⟩; refine ⟨_, rfl, ?_⟩; have oD := zA (Kd.dw ho0 (aJ (zB HB))); replace fK := zA (dn fK hb); replace iC := zA (dn iC hb); replace HB := zA (af (zB HB) hb)) | ((with_reducible refine aH (N := 8) rfl ?_); refine zX (N := 8) (cs := #[.int .i64 0, .slice none 0 0]) (t := 24) ?_; intro uP hg w21 aG hb; have q8 := zA (aG); have abZ := zA (zW hg HB); have ab0 := zA (zW hg HB); have nY := zA (lZ hg fK); have uW := zA (l5 hg fK); have nZ := zA (lZ hg iC); have uX := zA (l5 hg iC); replace oD := zA (Kd.bf (zR oD) hb); replace fK := zA (dn fK hb); replace iC := zA (dn iC hb); replace HB := zA (af (zB HB) hb); clear hb aG hg; have V8 := uW.out; have V9 := nY.out; have ab1 := uX.out; have ab2 := nZ.out; obtain ⟨_, _, _, _⟩ := iG q8; obtain ⟨Cv, Aq, ajT⟩ := Kd.bD oD.out; subst ajT; obtain ⟨_, _, _, _, _, _⟩ := nG iC) | ((with_reducible refine ay (f := 38) rfl ?_); refine zG (some 34) rfl Tryd.func38 #[.agg #[.int .i64 t241, .slice Cv t242.length Aq], .slice r9 lW.length si, .int .i64 a1] ?_; (with_reducible refine (jy.calls k t241 _ _ t242 _ _ lW a1 true _ ?aI ?aN ?bS ?bT ?jh A8.out).mono ?_); (case aI => refine (Kd.aU (e := 42) (base := w.heap.size) (ok := fun k_ => True) (n := t242.length) (c := Aq) ?_).2.2; exact (by refine jF ?_; exact (Kd.aQ (Kd.aT (p := ⟨uP, 1, none⟩) (Kd.aT (p := ⟨uP, 0, none⟩) (Kd.bJ oD.out q8.out (by decide)) (fun _ hk => hk.2) (.int .i64 t241)) (fun _ hk => hk.2) (.slice Cv t242.length Aq)) (fun _ h_ => h_.1)))); (case aN => exact (Kd.aU oD.out).2.1); (case bS => exact Kd.bu Eh.out (zB HB)); (case bT => exact Ei.out); (case jh => exact kQ.now lM.out (zB HB)); rintro e Zk ⟨rfl, hb⟩; refine ⟨_, rfl, ?_⟩; replace oD := zA (Kd.bf (by refine jF ?_; exact (Kd.aQ (Kd.aT (p := ⟨uP, 1, none⟩) (Kd.aT (p := ⟨uP, 0, none⟩) (Kd.bJ oD.out q8.out (by decide)) (fun _ hk => hk.2) (.int .i64 t241)) (fun _ hk => hk.2) (.slice Cv t242.length Aq)) (fun _ h_ => h_.1))) hb); replace fK := zA (fo (g := K8) (o := .cells #[.int .i64 au, .slice aZ ah.length aW] 24 (0, 0)) (by refine iA nY.out ?_; refine iA nY.out ?_; refine zk ?_; exact fK.out) hb); replace iC := zA (fo (g := K9) (o := .cells #[.slice r9 lW.length si, .slice uK pG.length uL, .slice wF iN.length vX] 28 (0, 0)) (by refine iA nZ.out ?_; refine iA nZ.out ?_; refine zk ?_; exact iC.out) hb); replace q8 := zA (fo (g := uP) (o := .cells #[.int .i64 t241, .slice Cv t242.length Aq] 24 (0, 0)) (by refine zk ?_; refine aV (cs := #[.int .i64 t241, .slice none 0 0]) ?_ 1 _ rfl; refine zk ?_; refine aV (cs := #[.int .i64 0, .slice none 0 0]) ?_ 0 _ rfl; refine zk ?_; exact q8.out) hb); replace HB := zA (af (zB HB) hb); obtain ⟨_, _, _, _⟩ := iG fK; obtain ⟨_, _, _, _, _, _⟩ := nG iC) | ((with_reducible refine ay (f := 39) rfl ?_); refine zG (some 40) rfl Tryd.func39 #[.agg #[.int .i64 au, .slice aZ ah.length aW], .int .i64 a1, .agg #[.slice r9 lW.length si, .slice uK pG.length uL, .slice wF iN.length vX]] ?_; (with_reducible refine (kW.calls k au _ _ ah a1 _ _ lW _ _ pG _ _ iN true _ ?aI ?aN ?bS ?bT ?jh ?FR ?FT ?FU ?FV A10.out).mono ?_); (case aI => exact jB cz HB); (case aN => exact dX.out); (case bS => exact jB Eh HB); (case bT => exact Ei.out); (case jh => exact jB Ny HB); (case FR => exact Nz.out); (case FT => exact jB ag4 HB); (case FU => exact ag5.out); (case FV => exact kQ.now lM.out (zB HB)); rintro e w30 ⟨rfl, hb⟩; refine ⟨_, rfl, ?_⟩; replace oD := zA (Kd.bf (zR oD) hb); replace fK := zA (dn fK hb); replace iC := zA (dn iC hb); replace q8 := zA (dn q8 hb); replace HB := zA (af (zB HB) hb))); go_ret; exact ⟨ze, zB HB⟩
       · replace c11 := Bool.eq_false_iff.mpr c11; subst c11; rw [if_neg (show ¬ (false = true) by decide)] at H; obtain rfl := Option.some.inj H; go_enter Tryd.func17, Tryd.ntmps17; go_wp2_with (first | ((with_reducible refine aH (N := 3) rfl ?_); refine zX (N := 3) (cs := #[.int .i64 au, .slice aZ ah.length aW]) (t := 24) ?_; intro K8 hg w31 aG hb; have fK := zA (aG); have WV := zA (zW hg HB); have WW := zA (zW hg HB); replace HB := zA (af (zB HB) hb); clear hb aG hg) | ((with_reducible refine aH (N := 5) rfl ?_); refine zX (N := 5) (cs := #[.slice r9 lW.length si, .slice uK pG.length uL, .slice wF iN.length vX]) (t := 28) ?_; intro K9 hg w32 aG hb; have iC := zA (aG); have WX := zA (zW hg HB); have WY := zA (zW hg HB); have rD := zA (lZ hg fK); have rE := zA (l5 hg fK); replace fK := zA (dn fK hb); replace HB := zA (af (zB HB) hb); clear hb aG hg; have apy := rD.out; have apz := rE.out; obtain ⟨_, _, _, _⟩ := iG fK; obtain ⟨_, _, _, _, _, _⟩ := nG iC) | ((with_reducible refine ay (f := 37) rfl ?_); refine zG (some 14) rfl Tryd.func37 #[.agg #[.int .i64 au, .slice aZ ah.length aW], .slice r9 lW.length si, .int .i64 a1] ?_; (with_reducible refine (bK.calls k au _ _ ah _ _ lW a1 t240 _ ?aI ?aN ?bS ?bT A4.out).mono ?_); (case aI => exact jB cz HB); (case aN => exact dX.out); (case bS => exact jB Eh HB); (case bT => exact Ei.out); rintro e w36 ⟨rfl, hb⟩; refine ⟨_, rfl, ?_⟩; replace fK := zA (dn fK hb); replace iC := zA (dn iC hb); replace HB := zA (af (zB HB) hb); obtain ⟨_, _, _, _⟩ := iG fK; obtain ⟨_, _, _, _, _, _⟩ := nG iC) | ((with_reducible refine ay (f := 21) rfl ?_); refine zG (some 22) rfl Tryd.func21 #[.agg #[.int .i64 au, .slice aZ ah.length aW], .slice uK pG.length uL] ?_; (with_reducible refine (gB.calls k au _ _ ah _ _ pG t241 t242 t245 _ ?aI ?aN ?bS ?bT A6.out).mono ?_); (case aI => exact jB cz HB); (case aN => exact dX.out); (case bS => exact jB Ny HB); (case bT => exact Nz.out); rintro e w39 ⟨aky, rfl, ho0, hb⟩; refine ⟨_, rfl, ?_⟩; have oD := zA (Kd.dw ho0 (aJ (zB HB))); replace fK := zA (dn fK hb); replace iC := zA (dn iC hb); replace HB := zA (af (zB HB) hb)) | ((with_reducible refine aH (N := 8) rfl ?_); refine zX (N := 8) (cs := #[.int .i64 0, .slice none 0 0]) (t := 24) ?_; intro uP hg w40 aG hb; have q8 := zA (aG); have abZ := zA (zW hg HB); have ab0 := zA (zW hg HB); have nY := zA (lZ hg fK); have uW := zA (l5 hg fK); have nZ := zA (lZ hg iC); have uX := zA (l5 hg iC); replace oD := zA (Kd.bf (zR oD) hb); replace fK := zA (dn fK hb); replace iC := zA (dn iC hb); replace HB := zA (af (zB HB) hb); clear hb aG hg; have agL := uW.out; have agM := nY.out; have Rm := uX.out; have Rn := nZ.out; obtain ⟨_, _, _, _⟩ := iG q8; obtain ⟨OX, Mq, akz⟩ := Kd.bD oD.out; subst akz; obtain ⟨_, _, _, _, _, _⟩ := nG iC) | ((with_reducible refine ay (f := 38) rfl ?_); refine zG (some 34) rfl Tryd.func38 #[.agg #[.int .i64 t241, .slice OX t242.length Mq], .slice r9 lW.length si, .int .i64 a1] ?_; (with_reducible refine (jy.calls k t241 _ _ t242 _ _ lW a1 true _ ?aI ?aN ?bS ?bT ?jh A8.out).mono ?_); (case aI => refine (Kd.aU (e := 42) (base := w.heap.size) (ok := fun k_ => True) (n := t242.length) (c := Mq) ?_).2.2; exact (by refine jF ?_; exact (Kd.aQ (Kd.aT (p := ⟨uP, 1, none⟩) (Kd.aT (p := ⟨uP, 0, none⟩) (Kd.bJ oD.out q8.out (by decide)) (fun _ hk => hk.2) (.int .i64 t241)) (fun _ hk => hk.2) (.slice OX t242.length Mq)) (fun _ h_ => h_.1)))); (case aN => exact (Kd.aU oD.out).2.1); (case bS => exact Kd.bu Eh.out (zB HB)); (case bT => exact Ei.out); (case jh => exact kQ.now lM.out (zB HB)); rintro e w46 ⟨rfl, hb⟩; refine ⟨_, rfl, ?_⟩; replace oD := zA (Kd.bf (by refine jF ?_; exact (Kd.aQ (Kd.aT (p := ⟨uP, 1, none⟩) (Kd.aT (p := ⟨uP, 0, none⟩) (Kd.bJ oD.out q8.out (by decide)) (fun _ hk => hk.2) (.int .i64 t241)) (fun _ hk => hk.2) (.slice OX t242.length Mq)) (fun _ h_ => h_.1))) hb); replace fK := zA (fo (g := K8) (o := .cells #[.int .i64 au, .slice aZ ah.length aW] 24 (0, 0)) (by refine iA nY.out ?_; refine iA nY.out ?_; refine zk ?_; exact fK.out) hb); replace iC := zA (fo (g := K9) (o := .cells #[.slice r9 lW.length si, .slice uK pG.length uL, .slice wF iN.length vX] 28 (0, 0)) (by refine iA nZ.out ?_; refine iA nZ.out ?_; refine zk ?_; exact iC.out) hb); replace q8 := zA (fo (g := uP) (o := .cells #[.int .i64 t241, .slice OX t242.length Mq] 24 (0, 0)) (by refine zk ?_; refine aV (cs := #[.int .i64 t241, .slice none 0 0]) ?_ 1 _ rfl; refine zk ?_; refine aV (cs := #[.int .i64 0, .slice none 0 0]) ?_ 0 _ rfl; refine zk ?_; exact q8.out) hb); replace HB := zA (af (zB HB) hb); obtain ⟨_, _, _, _⟩ := iG fK; obtain ⟨_, _, _, _, _, _⟩ := nG iC) | ((with_reducible refine ay (f := 39) rfl ?_); refine zG (some 40) rfl Tryd.func39 #[.agg #[.int .i64 au, .slice aZ ah.length aW], .int .i64 a1, .agg #[.slice r9 lW.length si, .slice uK pG.length uL, .slice wF iN.length vX]] ?_; (with_reducible refine (kW.calls k au _ _ ah a1 _ _ lW _ _ pG _ _ iN false _ ?aI ?aN ?bS ?bT ?jh ?FR ?FT ?FU ?FV A10.out).mono ?_); (case aI => exact jB cz HB); (case aN => exact dX.out); (case bS => exact jB Eh HB); (case bT => exact Ei.out); (case jh => exact jB Ny HB); (case FR => exact Nz.out); (case FT => exact jB ag4 HB); (case FU => exact ag5.out); (case FV => exact kQ.now lM.out (zB HB)); rintro e w49 ⟨rfl, hb⟩; refine ⟨_, rfl, ?_⟩; replace oD := zA (Kd.bf (zR oD) hb); replace fK := zA (dn fK hb); replace iC := zA (dn iC hb); replace q8 := zA (dn q8 hb); replace HB := zA (af (zB HB) hb))); go_ret; exact ⟨ze, zB HB⟩
     · replace c9 := Bool.eq_false_iff.mpr c9; subst c9; rw [if_neg (show ¬ (false = true) by decide)] at H; obtain rfl := Option.some.inj H; go_enter Tryd.func17, Tryd.ntmps17; go_wp2_with (first | ((with_reducible refine aH (N := 3) rfl ?_); refine zX (N := 3) (cs := #[.int .i64 au, .slice aZ ah.length aW]) (t := 24) ?_; intro K8 hg w50 aG hb; have fK := zA (aG); have WV := zA (zW hg HB); have WW := zA (zW hg HB); replace HB := zA (af (zB HB) hb); clear hb aG hg) | ((with_reducible refine aH (N := 5) rfl ?_); refine zX (N := 5) (cs := #[.slice r9 lW.length si, .slice uK pG.length uL, .slice wF iN.length vX]) (t := 28) ?_; intro K9 hg Um aG hb; have iC := zA (aG); have WX := zA (zW hg HB); have WY := zA (zW hg HB); have rD := zA (lZ hg fK); have rE := zA (l5 hg fK); replace fK := zA (dn fK hb); replace HB := zA (af (zB HB) hb); clear hb aG hg; have aaP := rD.out; have aaQ := rE.out; obtain ⟨_, _, _, _⟩ := iG fK; obtain ⟨_, _, _, _, _, _⟩ := nG iC) | ((with_reducible refine ay (f := 37) rfl ?_); refine zG (some 14) rfl Tryd.func37 #[.agg #[.int .i64 au, .slice aZ ah.length aW], .slice r9 lW.length si, .int .i64 a1] ?_; (with_reducible refine (bK.calls k au _ _ ah _ _ lW a1 t240 _ ?aI ?aN ?bS ?bT A4.out).mono ?_); (case aI => exact jB cz HB); (case aN => exact dX.out); (case bS => exact jB Eh HB); (case bT => exact Ei.out); rintro e w55 ⟨rfl, hb⟩; refine ⟨_, rfl, ?_⟩; replace fK := zA (dn fK hb); replace iC := zA (dn iC hb); replace HB := zA (af (zB HB) hb); obtain ⟨_, _, _, _⟩ := iG fK; obtain ⟨_, _, _, _, _, _⟩ := nG iC) | ((with_reducible refine ay (f := 21) rfl ?_); refine zG (some 22) rfl Tryd.func21 #[.agg #[.int .i64 au, .slice aZ ah.length aW], .slice uK pG.length uL] ?_; (with_reducible refine (gB.calls k au _ _ ah _ _ pG t241 t242 t245 _ ?aI ?aN ?bS ?bT A6.out).mono ?_); (case aI => exact jB cz HB); (case aN => exact dX.out); (case bS => exact jB Ny HB); (case bT => exact Nz.out); rintro e w58 ⟨aky, rfl, ho0, hb⟩; refine ⟨_, rfl, ?_⟩; have oD := zA (Kd.dw ho0 (aJ (zB HB))); replace fK := zA (dn fK hb); replace iC := zA (dn iC hb); replace HB := zA (af (zB HB) hb)) | ((with_reducible refine aH (N := 8) rfl ?_); refine zX (N := 8) (cs := #[.int .i64 0, .slice none 0 0]) (t := 24) ?_; intro uP hg w59 aG hb; have q8 := zA (aG); have abZ := zA (zW hg HB); have ab0 := zA (zW hg HB); have nY := zA (lZ hg fK); have uW := zA (l5 hg fK); have nZ := zA (lZ hg iC); have uX := zA (l5 hg iC); replace oD := zA (Kd.bf (zR oD) hb); replace fK := zA (dn fK hb); replace iC := zA (dn iC hb); replace HB := zA (af (zB HB) hb); clear hb aG hg; have ag6 := uW.out; have ag7 := nY.out; have ab3 := uX.out; have ab4 := nZ.out; obtain ⟨_, _, _, _⟩ := iG q8; obtain ⟨aeZ, ab5, auY⟩ := Kd.bD oD.out; subst auY; obtain ⟨_, _, _, _, _, _⟩ := nG iC) | ((with_reducible refine ay (f := 38) rfl ?_); refine zG (some 34) rfl Tryd.func38 #[.agg #[.int .i64 t241, .slice aeZ t242.length ab5], .slice r9 lW.length si, .int .i64 a1] ?_; (with_reducible refine (jy.calls k t241 _ _ t242 _ _ lW a1 false _ ?aI ?aN ?bS ?bT ?jh A8.out).mono ?_); (case aI => refine (Kd.aU (e := 42) (base := w.heap.size) (ok := fun k_ => True) (n := t242.length) (c := ab5) ?_).2.2; exact (by refine jF ?_; exact (Kd.aQ (Kd.aT (p := ⟨uP, 1, none⟩) (Kd.aT (p := ⟨uP, 0, none⟩) (Kd.bJ oD.out q8.out (by decide)) (fun _ hk => hk.2) (.int .i64 t241)) (fun _ hk => hk.2) (.slice aeZ t242.length ab5)) (fun _ h_ => h_.1)))); (case aN => exact (Kd.aU oD.out).2.1); (case bS => exact Kd.bu Eh.out (zB HB)); (case bT => exact Ei.out); (case jh => exact kQ.now lM.out (zB HB)); rintro e w65 ⟨rfl, hb⟩; refine ⟨_, rfl, ?_⟩; replace oD := zA (Kd.bf (by refine jF ?_; exact (Kd.aQ (Kd.aT (p := ⟨uP, 1, none⟩) (Kd.aT (p := ⟨uP, 0, none⟩) (Kd.bJ oD.out q8.out (by decide)) (fun _ hk => hk.2) (.int .i64 t241)) (fun _ hk => hk.2) (.slice aeZ t242.length ab5)) (fun _ h_ => h_.1))) hb); replace fK := zA (fo (g := K8) (o := .cells #[.int .i64 au, .slice aZ ah.length aW] 24 (0, 0)) (by refine iA nY.out ?_; refine iA nY.out ?_; refine zk ?_; exact fK.out) hb); replace iC := zA (fo (g := K9) (o := .cells #[.slice r9 lW.length si, .slice uK pG.length uL, .slice wF iN.length vX] 28 (0, 0)) (by refine iA nZ.out ?_; refine iA nZ.out ?_; refine zk ?_; exact iC.out) hb); replace q8 := zA (fo (g := uP) (o := .cells #[.int .i64 t241, .slice aeZ t242.length ab5] 24 (0, 0)) (by refine zk ?_; refine aV (cs := #[.int .i64 t241, .slice none 0 0]) ?_ 1 _ rfl; refine zk ?_; refine aV (cs := #[.int .i64 0, .slice none 0 0]) ?_ 0 _ rfl; refine zk ?_; exact q8.out) hb); replace HB := zA (af (zB HB) hb))); go_ret; exact ⟨ze, zB HB⟩
   · rw [if_neg c7] at H; have Am : (t245 == 0) = false := beq_eq_false_iff_ne.mpr c7; have OJ : (t245 != 0) = true := bne_iff_ne.mpr c7; obtain rfl := Option.some.inj H; go_enter Tryd.func17, Tryd.ntmps17; go_wp2_with (first | ((with_reducible refine aH (N := 3) rfl ?_); refine zX (N := 3) (cs := #[.int .i64 au, .slice aZ ah.length aW]) (t := 24) ?_; intro K8 hg w66 aG hb; have fK := zA (aG); have WV := zA (zW hg HB); have WW := zA (zW hg HB); replace HB := zA (af (zB HB) hb); clear hb aG hg) | ((with_reducible refine aH (N := 5) rfl ?_); refine zX (N := 5) (cs := #[.slice r9 lW.length si, .slice uK pG.length uL, .slice wF iN.length vX]) (t := 28) ?_; intro K9 hg w67 aG hb; have iC := zA (aG); have WX := zA (zW hg HB); have WY := zA (zW hg HB); have rD := zA (lZ hg fK); have rE := zA (l5 hg fK); replace fK := zA (dn fK hb); replace HB := zA (af (zB HB) hb); clear hb aG hg; have agD := rD.out; have agE := rE.out; obtain ⟨_, _, _, _⟩ := iG fK; obtain ⟨_, _, _, _, _, _⟩ := nG iC) | ((with_reducible refine ay (f := 37) rfl ?_); refine zG (some 14) rfl Tryd.func37 #[.agg #[.int .i64 au, .slice aZ ah.length aW], .slice r9 lW.length si, .int .i64 a1] ?_; (with_reducible refine (bK.calls k au _ _ ah _ _ lW a1 t240 _ ?aI ?aN ?bS ?bT A4.out).mono ?_); (case aI => exact jB cz HB); (case aN => exact dX.out); (case bS => exact jB Eh HB); (case bT => exact Ei.out); rintro e w71 ⟨rfl, hb⟩; refine ⟨_, rfl, ?_⟩; replace fK := zA (dn fK hb); replace iC := zA (dn iC hb); replace HB := zA (af (zB HB) hb); obtain ⟨_, _, _, _⟩ := iG fK; obtain ⟨_, _, _, _, _, _⟩ := nG iC) | ((with_reducible refine ay (f := 21) rfl ?_); refine zG (some 22) rfl Tryd.func21 #[.agg #[.int .i64 au, .slice aZ ah.length aW], .slice uK pG.length uL] ?_; (with_reducible refine (gB.calls k au _ _ ah _ _ pG t241 t242 t245 _ ?aI ?aN ?bS ?bT A6.out).mono ?_); (case aI => exact jB cz HB); (case aN => exact dX.out); (case bS => exact jB Ny HB); (case bT => exact Nz.out); rintro e w74 ⟨aky, rfl, ho0, hb⟩; refine ⟨_, rfl, ?_⟩; have oD := zA (Kd.dw ho0 (aJ (zB HB))); replace fK := zA (dn fK hb); replace iC := zA (dn iC hb); replace HB := zA (af (zB HB) hb)) | ((with_reducible refine aH (N := 8) rfl ?_); refine zX (N := 8) (cs := #[.int .i64 0, .slice none 0 0]) (t := 24) ?_; intro uP hg w75 aG hb; have q8 := zA (aG); have abZ := zA (zW hg HB); have ab0 := zA (zW hg HB); have nY := zA (lZ hg fK); have uW := zA (l5 hg fK); have nZ := zA (lZ hg iC); have uX := zA (l5 hg iC); replace oD := zA (Kd.bf (zR oD) hb); replace fK := zA (dn fK hb); replace iC := zA (dn iC hb); replace HB := zA (af (zB HB) hb); clear hb aG hg; have aph := uW.out; have api := nY.out; have apj := uX.out; have apk := nZ.out; obtain ⟨_, _, _, _⟩ := iG q8; obtain ⟨Uv, Uw, akb⟩ := Kd.bD oD.out; subst akb)); go_ret; exact ⟨ze, zB HB⟩
 · rw [if_neg c5] at H; have pM : (t240 == 0) = false := beq_eq_false_iff_ne.mpr c5; have yh : (t240 != 0) = true := bne_iff_ne.mpr c5; obtain rfl := Option.some.inj H; go_enter Tryd.func17, Tryd.ntmps17; go_wp2_with (first | ((with_reducible refine aH (N := 3) rfl ?_); refine zX (N := 3) (cs := #[.int .i64 au, .slice aZ ah.length aW]) (t := 24) ?_; intro K8 hg w80 aG hb; have fK := zA (aG); have WV := zA (zW hg HB); have WW := zA (zW hg HB); replace HB := zA (af (zB HB) hb); clear hb aG hg) | ((with_reducible refine aH (N := 5) rfl ?_); refine zX (N := 5) (cs := #[.slice r9 lW.length si, .slice uK pG.length uL, .slice wF iN.length vX]) (t := 28) ?_; intro K9 hg w81 aG hb; have iC := zA (aG); have WX := zA (zW hg HB); have WY := zA (zW hg HB); have rD := zA (lZ hg fK); have rE := zA (l5 hg fK); replace fK := zA (dn fK hb); replace HB := zA (af (zB HB) hb); clear hb aG hg; have apB := rD.out; have apC := rE.out; obtain ⟨_, _, _, _⟩ := iG fK; obtain ⟨_, _, _, _, _, _⟩ := nG iC) | ((with_reducible refine ay (f := 37) rfl ?_); refine zG (some 14) rfl Tryd.func37 #[.agg #[.int .i64 au, .slice aZ ah.length aW], .slice r9 lW.length si, .int .i64 a1] ?_; (with_reducible refine (bK.calls k au _ _ ah _ _ lW a1 t240 _ ?aI ?aN ?bS ?bT A4.out).mono ?_); (case aI => exact jB cz HB); (case aN => exact dX.out); (case bS => exact jB Eh HB); (case bT => exact Ei.out); rintro e w85 ⟨rfl, hb⟩; refine ⟨_, rfl, ?_⟩; replace fK := zA (dn fK hb); replace iC := zA (dn iC hb); replace HB := zA (af (zB HB) hb))); go_ret; exact ⟨ze, zB HB⟩
end Go.Proofs.YtjmdlmogdbhdhaaDoor.P
namespace Go.Proofs.YtjmdlmogdbhdhaaDoor.P
open Go.RowKit Go.Proofs.YtjmdlmogdbhdhaaDoorW.PrintWords Go.Proofs.YtjmdlmogdbhdhaaDoorW.PrintLast Go.Proofs.YtjmdlmogdbhdhaaDoorW.PrintMore
theorem Ex {N : Int} {L : List aD} (hN : 0 ≤ N) {s : List Int} {kind : Int} (hk : kind = 1 ∨ kind = 2) (hh : ¬ jk N s kind) : 0 < s.length ∨ qA N L s kind = [] := by
  cases s with
  | cons a r => exact .inl (by simp)
  | nil =>
    refine .inr (Nu hN ?_)
    rcases hk with rfl | rfl
    · exact .inl rfl
    · right
      have : ¬ 0 < N := fun h => hh ⟨rfl, rfl, h⟩
      omega
theorem ae0 {N : Int} {L : List aD} (hG : jd N L) {s : List Int} (hs : mD N s) {kind : Int} (hk : kind = 1 ∨ kind = 2) (hh : ¬ jk N s kind) : ∃ R, jd N R ∧ aeD N R s kind ∧ Ev (fun k => gB.f k N L (EM N L s kind)) (N, R, 0) := by
  have hne := Ex (L := L) hG.n0 hk hh
  obtain ⟨R, gR, sR, eR⟩ := MZ hG (aeW hG hs kind hne) (Zh hG hs kind hne) (by
    have := JN hG s kind
    unfold EM
    rw [List.length_map]
    omega)
  exact ⟨R, gR, aeV hG hs hk hh hne sR, eR⟩
theorem ab6 {N : Int} {L : List aD} (hG : jd N L) {s : List Int} (hs : mD N s) {kind : Int} (hk : kind = 1 ∨ kind = 2) (hh : ¬ jk N s kind) : Ev (fun k => lQ.f k N L kind s (EM N L s kind) (qA N L s kind)) 0 := by
  obtain ⟨R, gR, aR, eR⟩ := ae0 hG hs hk hh
  simp only [lQ.f]
  refine Ev.bind (FH hG hs hk) (Ev.pos rfl (Ev.bind eR (Ev.pos rfl (Ev.bind (Ml gR hs kind) ?_))))
  rw [(aeE gR hs kind).2 aR]
  exact Ev.pos rfl (Ev.bind (Zj hG hs kind) (Ev.pos rfl (Ev.const _)))
end Go.Proofs.YtjmdlmogdbhdhaaDoor.P
namespace Go.Proofs.YtjmdlmogdbhdhaaDoor.P
open Go.RowKit Go.Proofs.YtjmdlmogdbhdhaaDoorW.PrintWords Go.Proofs.YtjmdlmogdbhdhaaDoorW.PrintLast Go.Proofs.YtjmdlmogdbhdhaaDoorW.PrintMore
attribute [local go_sem] iI iJ jP jQ gH gI iK iL
set_option linter.unusedVariables false
set_option linter.unusedSimpArgs false
set_option maxHeartbeats 8000000
set_option maxRecDepth 100000
def dz.l0 : Nat → List Int → List Int → List Int → Int → Int → Option (Int)
 | 0, _, _, _, _, _ => none
 | k + 1, x0, x1, x9, yJ, xg => if xg < yJ then (if 0 ≤ xg then (if xg < (x9.length : Int) then (if xg ≥ (x1.length : Int) then (some 1) else (if xg < (x1.length : Int) then ((cmp_Compare_int.f (rd x9 xg) (rd x1 xg)).bind fun Mr => (if Mr = 0 then (dz.l0 k x0 x1 x9 yJ (wrap64 (xg + 1))) else (some Mr))) else (none))) else (none)) else (none)) else (if (x0.length : Int) < (x1.length : Int) then (some (-1)) else (some 0))
def dz.f (k : Nat) (l0 : List Int) (l1 : List Int) : Option (Int) := dz.l0 k l0 l1 l0 (l0.length : Int) 0
theorem dz.calls (k : Nat) (A0 : Option Addr) (c0 : Nat) (l0 : List Int) (A1 : Option Addr) (c1 : Nat) (l1 : List Int) (r : Int) (w : World) (hr0 : Kd.C (Kd.int .i64) w A0 l0.length l0) (hc0 : l0.length ≤ c0) (hr1 : Kd.C (Kd.int .i64) w A1 l1.length l1) (hc1 : l1.length ≤ c1) (h : dz.f k l0 l1 = some r) :
 Calls Tryd.prog 55 #[.slice A0 l0.length c0, .slice A1 l1.length c1] w fun e w' => e = .returned (.int .i64 r) ∧ bR w w' := by
 have uh := zA hr0; have EK := zA hc0; clear hr0 hc0; have HR1 := zA hr1; have rX := zA hc1; clear hr1 hc1; have H : (dz.l0 k l0 l1 l0 (l0.length : Int) 0) = some r := h; clear h; have H' := zA H; clear H; go_enter Tryd.func55, Tryd.ntmps55; go_wp2; go_loopg [11] k (fun kq v11 w' => ∃ (fD : Int), v11 = .int .i64 fD ∧ ag (dz.l0 kq l0 l1 l0 (l0.length : Int) fD = some r) ∧ ag (kq ≤ k) ∧ bR w w')
 case atStart => exact ⟨(0), zv, H', ⟨Nat.le_refl _⟩, by repeat (first | exact bR.refl _ | apply bR.step)⟩
 case round =>
  clear H'
  obtain ⟨fD, rfl, HA, iU, ⟨m1, rfl⟩⟩ := hrel; cases gk with
  | zero => exact absurd HA.out (by simp [dz.l0])
  | succ k1 =>
   have H := HA.out; clear HA; simp only [dz.l0] at H; by_cases c3 : fD < (l0.length : Int)
   · rw [if_pos c3] at H; have zF := decide_eq_true c3; clear c3; by_cases c4 : 0 ≤ fD
     · rw [if_pos c4] at H; have qU := decide_eq_true c4; clear c4; by_cases c5 : fD < (l0.length : Int)
       · rw [if_pos c5] at H; have pM := decide_eq_true c5; clear c5; by_cases c6 : fD ≥ (l1.length : Int)
         · rw [if_pos c6] at H; have yH := decide_eq_true c6; clear c6; obtain rfl := Option.some.inj H; have La : 0 ≤ (fD : Int) := zo; have Lb : fD < (l0.length : Int) := zo; obtain ⟨ag8, ab7, WZ⟩ := Kd.eP uh.out fD La Lb; cases ab7; replace La := eq_true La; replace Lb := eq_true Lb; go_wp2; go_ret; exact ⟨by first | rfl | (simp; done) | (simp [*]; done), by repeat (first | exact bR.refl _ | apply bR.step)⟩
         · rw [if_neg c6] at H; have yH := decide_eq_false c6; clear c6; by_cases c7 : fD < (l1.length : Int)
           · rw [if_pos c7] at H; have Am := decide_eq_true c7; clear c7; replace H := zE H; obtain ⟨Mr, A8, H⟩ := H; (try dsimp only at H); by_cases c9 : Mr = 0
             · rw [if_pos c9] at H; have EX : (Mr == 0) = true := beq_iff_eq.mpr c9; have ab8 : (Mr != 0) = false := bne_eq_false_iff_eq.mpr c9; clear c9; have H' := zA H; clear H; have La : 0 ≤ (fD : Int) := zo; have Lb : fD < (l0.length : Int) := zo; obtain ⟨ag8, ab7, WZ⟩ := Kd.eP uh.out fD La Lb; cases ab7; replace La := eq_true La; replace Lb := eq_true Lb; have UI : 0 ≤ (fD : Int) := zo; have UJ : fD < (l1.length : Int) := zo; obtain ⟨apD, akA, ae1⟩ := Kd.eP HR1.out fD UI UJ; cases akA; replace UI := eq_true UI; replace UJ := eq_true UJ; go_wp2_with (first | ((with_reducible refine ay (f := 54) rfl ?_); refine zG (some 26) rfl Tryd.func54 #[.int .i64 (rd l0 fD), .int .i64 (rd l1 fD)] ?_; (with_reducible refine (cmp_Compare_int.calls (rd l0 fD) (rd l1 fD) Mr _ A8.out).mono ?_); rintro e w' ⟨rfl, ⟨nd, rfl⟩⟩; refine ⟨_, rfl, ?_⟩)); go_roundg k1
               case measure => have := iU.out; omega
               case rel => exact ⟨(wrap64 (fD + 1)), zv, H', ⟨by have := iU.out; omega⟩, by repeat (first | exact bR.refl _ | apply bR.step)⟩
             · rw [if_neg c9] at H; have EX : (Mr == 0) = false := beq_eq_false_iff_ne.mpr c9; have ab8 : (Mr != 0) = true := bne_iff_ne.mpr c9; obtain rfl := Option.some.inj H; have La : 0 ≤ (fD : Int) := zo; have Lb : fD < (l0.length : Int) := zo; obtain ⟨ag8, ab7, WZ⟩ := Kd.eP uh.out fD La Lb; cases ab7; replace La := eq_true La; replace Lb := eq_true Lb; have UI : 0 ≤ (fD : Int) := zo; have UJ : fD < (l1.length : Int) := zo; obtain ⟨apD, akA, ae1⟩ := Kd.eP HR1.out fD UI UJ; cases akA; replace UI := eq_true UI; replace UJ := eq_true UJ; go_wp2_with (first | ((with_reducible refine ay (f := 54) rfl ?_); refine zG (some 26) rfl Tryd.func54 #[.int .i64 (rd l0 fD), .int .i64 (rd l1 fD)] ?_; (with_reducible refine (cmp_Compare_int.calls (rd l0 fD) (rd l1 fD) Mr _ A8.out).mono ?_); rintro e w' ⟨rfl, ⟨nd, rfl⟩⟩; refine ⟨_, rfl, ?_⟩)); go_ret; exact ⟨by first | rfl | (simp; done) | (simp [*]; done), by repeat (first | exact bR.refl _ | apply bR.step)⟩
           · rw [if_neg c7] at H; exact absurd H (by simp)
       · rw [if_neg c5] at H; exact absurd H (by simp)
     · rw [if_neg c4] at H; exact absurd H (by simp)
   · rw [if_neg c3] at H; have zF := decide_eq_false c3; clear c3; by_cases c10 : (l0.length : Int) < (l1.length : Int)
     · rw [if_pos c10] at H; have rR := decide_eq_true c10; have Rk : decide (l0.length < l1.length) = true := decide_eq_true (Int.ofNat_lt.mp c10); clear c10; obtain rfl := Option.some.inj H; go_wp2; go_ret; exact ⟨by first | rfl | (simp; done) | (simp [*]; done), by repeat (first | exact bR.refl _ | apply bR.step)⟩
     · rw [if_neg c10] at H; have rR := decide_eq_false c10; have Rk : decide (l0.length < l1.length) = false := decide_eq_false (fun h => c10 (Int.ofNat_lt.mpr h)); clear c10; obtain rfl := Option.some.inj H; go_wp2; go_ret; exact ⟨by first | rfl | (simp; done) | (simp [*]; done), by repeat (first | exact bR.refl _ | apply bR.step)⟩
mutual
def bV.l0 : Nat → Int → Int → List Int → List Int → Int → Int → Int → Int → List (aD) → Option (List Int × (List (aD)) × (List (List (aD))) × Int)
 | 0, _, _, _, _, _, _, _, _, _ => none
 | k + 1, x2, x9, yJ, xg, wK, x41, x42, uu, uy => if x42 < x41 then (bV.l1 k x2 x9 yJ xg wK x42 x9 x41 x42 yJ (yJ.length : Int) 0 uu uy) else ((bN.f k uu uy xg x2).bind fun ab9 => (some (ab9.1, ab9.2.1, ab9.2.2, 0)))
def bV.l1 : Nat → Int → Int → List Int → List Int → Int → Int → Int → Int → Int → List Int → Int → Int → Int → List (aD) → Option (List Int × (List (aD)) × (List (List (aD))) × Int)
 | 0, _, _, _, _, _, _, _, _, _, _, _, _, _, _ => none
 | k + 1, x2, x9, yJ, xg, wK, wo, zH, x41, x42, x46, x47, x48, uu, uy => if x48 < x47 then (if 0 ≤ x48 then (if x48 < (x46.length : Int) then (if (Go.bits .and .i64 (shr .i64 wo x48) 1) = 1 then ((fM.f zH (rd x46 x48)).bind fun Zl => (bV.l1 k x2 x9 yJ xg wK wo Zl x41 x42 x46 x47 (wrap64 (x48 + 1)) uu uy)) else (bV.l1 k x2 x9 yJ xg wK wo zH x41 x42 x46 x47 (wrap64 (x48 + 1)) uu uy)) else (none)) else (none)) else ((bQ.f k zH).bind fun sH => ((ig.f uu uy sH x2).bind fun akC => (if akC = true then (bV.l0 k x2 x9 yJ xg wK x41 (wrap64 (x42 + 1)) uu uy) else ((aM.f k uu uy sH x2).bind fun Jt => (if wK < 0 then (bV.l0 k x2 x9 yJ sH (Jt.length : Int) x41 (wrap64 (x42 + 1)) uu uy) else ((cmp_Compare_int.f (Jt.length : Int) wK).bind fun Ib => ((cmp_Compare_int.f (sH.length : Int) (xg.length : Int)).bind fun Ic => ((dz.f k sH xg).bind fun Ie => ((eX.f k (([Ib, Ic, Ie] : List Int))).bind fun UK => (if UK < 0 then (bV.l0 k x2 x9 yJ sH (Jt.length : Int) x41 (wrap64 (x42 + 1)) uu uy) else (bV.l0 k x2 x9 yJ xg wK x41 (wrap64 (x42 + 1)) uu uy)))))))))))
end
def bV.f (k : Nat) (au : Int) (ah : List (aD)) (l1 : List Int) (a2 : Int) : Option (List Int × (List (aD)) × (List (List (aD))) × Int) := (bK.f k au ah l1 a2).bind fun FW => (if FW = 0 then ((fJ.f k l1).bind fun AO => ((bF.f k au ah).bind fun acd => ((bQ.f k (Go.bits .andNot .u64 acd.1 AO)).bind fun l7 => (if (l7.length : Int) > 10 then (some (([] : List Int), ([] : List (aD)), ([] : List (List (aD))), 2)) else (bV.l0 k a2 AO l7 ([] : List Int) (-1) (shl .i64 1 (l7.length : Int)) 0 au ah))))) else (some (([] : List Int), ([] : List (aD)), ([] : List (List (aD))), FW)))
theorem bV.calls (k : Nat) (au : Int) (aZ : Option Addr) (aW : Nat) (ah : List (aD)) (A1 : Option Addr) (c1 : Nat) (l1 : List Int) (a2 : Int) (r1 : List Int) (r2 : List (aD)) (r3 : List (List (aD))) (r4 : Int) (w : World) (eY : Kd.C gm w aZ ah.length ah) (eZ : ah.length ≤ aW) (hr1 : Kd.C (Kd.int .i64) w A1 l1.length l1) (hc1 : l1.length ≤ c1) (hT : kQ w) (h : bV.f k au ah l1 a2 = some (r1, r2, r3, r4)) :
 Calls Tryd.prog 25 #[.agg #[.int .i64 au, .slice aZ ah.length aW], .slice A1 l1.length c1, .int .i64 a2] w fun e w' => ∃ Db C8 P9 : Value, e = .returned (.tuple #[.agg #[Db, C8, P9], .int .i64 r4]) ∧ Kd.R (Kd.int .i64) 3 w' w.heap.size (fun _ => True) Db r1 ∧ Kd.R gm 42 w' w.heap.size (fun _ => True) C8 r2 ∧ Kd.S (Kd.slice 42 gm) 22 w' w.heap.size (fun k_ => some k_ ≠ (C8 : Value).ownBlock) P9 r3 ∧ Below w.heap.size w w' := by
 have uk := Tryd.underlying24; have hfd : ∀ (t : Int) (A1 A2 : Option Addr) (n1 c1 n2 c2 : Nat) (W : World), (Instr.field 80 (.agg #[.int .u64 t, .slice A1 n1 c1, .slice A2 n2 c2]) 0).run Tryd.prog W = .ok (.int .u64 t) W := fun t A1 A2 n1 c1 n2 c2 W => by kernel_rfl
 have Mo := Tryd.underlying28; have cz := zA eY; have dX := zA eZ; clear eY eZ; have HR1 := zA hr1; have rX := zA hc1; clear hr1 hc1; have lM := zA hT; clear hT; have HB := zA (Below.refl w.heap.size w); have H : ((bK.f k au ah l1 a2).bind fun FW => (if FW = 0 then ((fJ.f k l1).bind fun AO => ((bF.f k au ah).bind fun acd => ((bQ.f k (Go.bits .andNot .u64 acd.1 AO)).bind fun l7 => (if (l7.length : Int) > 10 then (some (([] : List Int), ([] : List (aD)), ([] : List (List (aD))), 2)) else (bV.l0 k a2 AO l7 ([] : List Int) (-1) (shl .i64 1 (l7.length : Int)) 0 au ah))))) else (some (([] : List Int), ([] : List (aD)), ([] : List (List (aD))), FW)))) = some (r1, r2, r3, r4) := h; clear h; replace H := zE H; obtain ⟨FW, A4, H⟩ := H; (try dsimp only at H); by_cases c5 : FW = 0
 · rw [if_pos c5] at H; have pM : (FW == 0) = true := beq_iff_eq.mpr c5; have yh : (FW != 0) = false := bne_eq_false_iff_eq.mpr c5; clear c5; replace H := zE H; obtain ⟨AO, A6, H⟩ := H; (try dsimp only at H); replace H := Option.bind_eq_some_iff.mp H; obtain ⟨⟨Zm, apE, apF⟩, A70, H⟩ := H; (try dsimp only at H); have A7 := zA A70; clear A70; replace H := zE H; obtain ⟨l7, A8, H⟩ := H; (try dsimp only at H); by_cases c9 : (l7.length : Int) > 10
   · rw [if_pos c9] at H; have EX := decide_eq_true c9; have ab8 : decide (10 < l7.length) = true := decide_eq_true (by omega); clear c9; simp only [Option.some.injEq, Prod.mk.injEq] at H; obtain ⟨rfl, rfl, rfl, rfl⟩ := H; go_enter Tryd.func25, Tryd.ntmps25; go_wp2_with (first | ((with_reducible refine aH (N := 3) rfl ?_); (try (refine iV (by rfl) ?_; dsimp only)); refine zX (N := 3) (cs := #[.int .i64 au, .slice aZ ah.length aW]) (t := 24) ?_; intro RB hg yu aG hb; have fH := zA (aG); have ag9 := zA (zW hg HB); have aha := zA (zW hg HB); replace HB := zA (af (zB HB) hb); clear hb aG hg) | ((with_reducible refine aH (N := 6) rfl ?_); (try (refine iV (by rfl) ?_; dsimp only)); refine zX (N := 6) (cs := #[.slice none 0 0, .slice none 0 0, .slice none 0 0]) (t := 28) ?_; intro vY hg QE aG hb; have gV := zA (aG); have ahb := zA (zW hg HB); have ahc := zA (zW hg HB); have qB := zA (lZ hg fH); have qC := zA (l5 hg fH); replace fH := zA (dn fH hb); replace HB := zA (af (zB HB) hb); clear hb aG hg; have QL := qB.out; have QM := qC.out; obtain ⟨_, _, _, _⟩ := iG fH) | ((with_reducible refine ay (f := 37) rfl ?_); refine zG (some 22) rfl Tryd.func37 #[.agg #[.int .i64 au, .slice aZ ah.length aW], .slice A1 l1.length c1, .int .i64 a2] ?_; (with_reducible refine (bK.calls k au _ _ ah _ _ l1 a2 FW _ ?aI ?aN ?bS ?bT A4.out).mono ?_); (case aI => exact jB cz HB); (case aN => exact dX.out); (case bS => exact jB HR1 HB); (case bT => exact rX.out); rintro e JF ⟨rfl, hb⟩; refine ⟨_, rfl, ?_⟩; replace fH := zA (dn fH hb); replace gV := zA (dn gV hb); replace HB := zA (af (zB HB) hb)) | ((with_reducible refine ay (f := 48) rfl ?_); refine zG (some 28) rfl Tryd.func48 #[.slice A1 l1.length c1] ?_; (with_reducible refine (fJ.calls k _ _ l1 AO _ ?aI ?aN A6.out).mono ?_); (case aI => exact jB HR1 HB); (case aN => exact rX.out); rintro e w' ⟨rfl, ⟨nd, rfl⟩⟩; refine ⟨_, rfl, ?_⟩; (try (rw [sU JF]; generalize vG : World.drewN JF _ = JF; replace fH : ag (JF.heap[RB]? = some (.cells #[.int .i64 au, .slice aZ ah.length aW] 24 (0, 0))) := ⟨by rw [← vG]; exact (zK fH)⟩; replace gV : ag (JF.heap[vY]? = some (.cells #[.slice none 0 0, .slice none 0 0, .slice none 0 0] 28 (0, 0))) := ⟨by rw [← vG]; exact (zK gV)⟩; replace HB : ag (Below w.heap.size w JF) := ⟨by rw [← vG]; exact (zB HB)⟩; clear vG)); obtain ⟨_, _, _, _⟩ := iG fH) | ((with_reducible refine ay (f := 49) rfl ?_); refine zG (some 30) rfl Tryd.func49 #[.agg #[.int .i64 au, .slice aZ ah.length aW]] ?_; (with_reducible refine (bF.calls k au _ _ ah Zm apE apF _ ?aI ?aN A7.out).mono ?_); (case aI => exact jB cz HB); (case aN => exact dX.out); rintro e w16 ⟨au0, au1, rfl, ho0, ho1, hb⟩; refine ⟨_, rfl, ?_⟩; (obtain ⟨Aq1, cq1, eq1⟩ := Kd.bD ho0); subst eq1; (obtain ⟨Aq2, cq2, eq2⟩ := Kd.bD ho1); subst eq2; have RD := zA (Kd.dw ho0 (aJ (zB HB))); have RF := zA (Kd.dw ho1 (aJ (zB HB))); replace fH := zA (dn fH hb); replace gV := zA (dn gV hb); replace HB := zA (af (zB HB) hb)) | ((with_reducible refine ay (f := 50) rfl ?_); refine zG (some 34) rfl Tryd.func50 #[.int .u64 (Go.bits .andNot .u64 Zm AO)] ?_; (with_reducible refine (bQ.calls k (Go.bits .andNot .u64 Zm AO) l7 _ ?aI A8.out).mono ?_); (case aI => exact kQ.now lM.out (zB HB)); rintro e w17 ⟨au4, rfl, ho0, hb⟩; refine ⟨_, rfl, ?_⟩; have W9 := zA (Kd.dw ho0 (aJ (zB HB))); replace RD := zA (Kd.bf (zR RD) hb); replace RF := zA (Kd.bf (zR RF) hb); replace fH := zA (dn fH hb); replace gV := zA (dn gV hb); replace HB := zA (af (zB HB) hb); obtain ⟨aCv, aCw, au5⟩ := Kd.bD W9.out; subst au5; obtain ⟨_, _, _, _, _, _⟩ := nG gV)); refine bodyPost_ret (iw rfl _ _ vY 28 #[.slice none 0 0, .slice none 0 0, .slice none 0 0] (0, 0) _ rfl (by refine zk ?_; refine aV (cs := #[.slice none 0 0, .slice none 0 0, .slice none 0 0]) ?_ 2 _ rfl; refine zk ?_; refine aV (cs := #[.slice none 0 0, .slice none 0 0, .slice none 0 0]) ?_ 1 _ rfl; refine zk ?_; refine aV (cs := #[.slice none 0 0, .slice none 0 0, .slice none 0 0]) ?_ 0 _ rfl; refine zk ?_; exact gV.out) Tryd.underlying28 rfl (by kernel_rfl)) rfl ?_; exact ⟨_, _, _, ze, Ab, Ab, Ab, zB HB⟩
   · rw [if_neg c9] at H; have EX := decide_eq_false c9; have ab8 : decide (10 < l7.length) = false := decide_eq_false (by omega); clear c9; obtain ⟨yG, yQ⟩ : ∃ j_ : Int, (shl .i64 1 (l7.length : Int)) = j_ := ⟨_, rfl⟩; replace H : (bV.l0 k a2 AO l7 ([] : List Int) (-1) yG 0 au ah) = some (r1, r2, r3, r4) := by first | (rw [yQ] at H; exact H) | (simp only [yQ] at H ⊢; exact H)
     (try rw [yQ] at A4); (try rw [yQ] at A6); (try rw [yQ] at A7); (try rw [yQ] at A8); have Oh : (IntKind.i64.wrap (1 * 2 ^ min (l7.length : Int).toNat 64)) = yG := yQ; have UL : (l7.length : Int) ≤ 64 → (IntKind.i64.wrap (1 * 2 ^ (l7.length : Int).toNat)) = yG := G6 yQ; have akD : (IntKind.i64.wrap (1 * 2 ^ min l7.length 64)) = yG := Oh; have akE : (l7.length : Int) ≤ 64 → (IntKind.i64.wrap (1 * 2 ^ l7.length)) = yG := UL; have au6 : (IntKind.i64.wrap (2 ^ min l7.length 64)) = yG := by have h_ := akD; rw [Int.one_mul] at h_; exact h_
     have au7 : (l7.length : Int) ≤ 64 → (IntKind.i64.wrap (2 ^ l7.length)) = yG := fun Uj => by have h_ := akE Uj; rw [Int.one_mul] at h_; exact h_
     have au8 : (IntKind.i64.wrap (2 ^ min (l7.length : Int).toNat 64)) = yG := by have h_ := Oh; rw [Int.one_mul] at h_; exact h_
     have au9 : (l7.length : Int) ≤ 64 → (IntKind.i64.wrap (2 ^ (l7.length : Int).toNat)) = yG := fun Uj => by have h_ := UL Uj; rw [Int.one_mul] at h_; exact h_
     have ava : (wrap64 (1 * 2 ^ min (l7.length : Int).toNat 64)) = yG := (nE _).symm.trans Oh; have avb : (l7.length : Int) ≤ 64 → (wrap64 (1 * 2 ^ (l7.length : Int).toNat)) = yG := fun h_ => (nE _).symm.trans (UL h_)
     have H' := zA H; clear H; go_enter Tryd.func25, Tryd.ntmps25; go_wp2_with (first | ((with_reducible refine aH (N := 3) rfl ?_); (try (refine iV (by rfl) ?_; dsimp only)); refine zX (N := 3) (cs := #[.int .i64 au, .slice aZ ah.length aW]) (t := 24) ?_; intro RB hg w21 aG hb; have fH := zA (aG); have ag9 := zA (zW hg HB); have aha := zA (zW hg HB); replace HB := zA (af (zB HB) hb); clear hb aG hg) | ((with_reducible refine aH (N := 6) rfl ?_); (try (refine iV (by rfl) ?_; dsimp only)); refine zX (N := 6) (cs := #[.slice none 0 0, .slice none 0 0, .slice none 0 0]) (t := 28) ?_; intro vY hg w22 aG hb; have gV := zA (aG); have ahb := zA (zW hg HB); have ahc := zA (zW hg HB); have qB := zA (lZ hg fH); have qC := zA (l5 hg fH); replace fH := zA (dn fH hb); replace HB := zA (af (zB HB) hb); clear hb aG hg; have ab1 := qB.out; have ab2 := qC.out; obtain ⟨_, _, _, _⟩ := iG fH) | ((with_reducible refine ay (f := 37) rfl ?_); refine zG (some 22) rfl Tryd.func37 #[.agg #[.int .i64 au, .slice aZ ah.length aW], .slice A1 l1.length c1, .int .i64 a2] ?_; (with_reducible refine (bK.calls k au _ _ ah _ _ l1 a2 FW _ ?aI ?aN ?bS ?bT A4.out).mono ?_); (case aI => exact jB cz HB); (case aN => exact dX.out); (case bS => exact jB HR1 HB); (case bT => exact rX.out); rintro e w25 ⟨rfl, hb⟩; refine ⟨_, rfl, ?_⟩; replace fH := zA (dn fH hb); replace gV := zA (dn gV hb); replace HB := zA (af (zB HB) hb)) | ((with_reducible refine ay (f := 48) rfl ?_); refine zG (some 28) rfl Tryd.func48 #[.slice A1 l1.length c1] ?_; (with_reducible refine (fJ.calls k _ _ l1 AO _ ?aI ?aN A6.out).mono ?_); (case aI => exact jB HR1 HB); (case aN => exact rX.out); rintro e w' ⟨rfl, ⟨nd, rfl⟩⟩; refine ⟨_, rfl, ?_⟩; obtain ⟨_, _, _, _⟩ := iG fH) | ((with_reducible refine ay (f := 49) rfl ?_); refine zG (some 30) rfl Tryd.func49 #[.agg #[.int .i64 au, .slice aZ ah.length aW]] ?_; (with_reducible refine (bF.calls k au _ _ ah Zm apE apF _ ?aI ?aN A7.out).mono ?_); (case aI => repeat (first | exact (Kd.bu cz.out (zB HB)) | (with_reducible refine Kd.dY ?_ _) | (with_reducible refine Kd.dZ ?_ _) | (with_reducible refine Kd.fB ?_))); (case aN => exact dX.out); rintro e Zk ⟨au0, au1, rfl, ho0, ho1, hb⟩; refine ⟨_, rfl, ?_⟩; (obtain ⟨Aq1, cq1, eq1⟩ := Kd.bD ho0); subst eq1; (obtain ⟨Aq2, cq2, eq2⟩ := Kd.bD ho1); subst eq2; have RD := zA (Kd.dw ho0 (aJ (zB HB))); have RF := zA (Kd.dw ho1 (aJ (zB HB))); replace fH := zA (dn fH hb); replace gV := zA (dn gV hb); replace HB := zA (af (zB HB) hb)) | ((with_reducible refine ay (f := 50) rfl ?_); refine zG (some 34) rfl Tryd.func50 #[.int .u64 (Go.bits .andNot .u64 Zm AO)] ?_; (with_reducible refine (bQ.calls k (Go.bits .andNot .u64 Zm AO) l7 _ ?aI A8.out).mono ?_); (case aI => exact kQ.now lM.out (zB HB)); rintro e w28 ⟨au4, rfl, ho0, hb⟩; refine ⟨_, rfl, ?_⟩; have W9 := zA (Kd.dw ho0 (aJ (zB HB))); replace RD := zA (Kd.bf (zR RD) hb); replace RF := zA (Kd.bf (zR RF) hb); replace fH := zA (dn fH hb); replace gV := zA (dn gV hb); replace HB := zA (af (zB HB) hb); obtain ⟨tZ, uf, abR⟩ := Kd.bD W9.out; subst abR)); go_loopg [11, 12, 42] k (fun kq v11 v12 v42 w' => ∃ (fD : List Int) (rQ : Int) (uz : Int), v12 = .int .i64 rQ ∧ v42 = .int .i64 uz ∧ ag (bV.l0 kq a2 AO l7 fD rQ yG uz au ah = some (r1, r2, r3, r4)) ∧ ag (kq ≤ k) ∧ ag (Kd.R (Kd.int .i64) 3 w' w.heap.size (fun k_ => some k_ ≠ (v11 : Value).ownBlock) (.slice tZ l7.length uf) l7) ∧ ag (Kd.R (Kd.int .i64) 3 w' w.heap.size (fun k_ => some k_ ≠ ((.slice tZ l7.length uf) : Value).ownBlock) v11 fD) ∧ ag (w'.heap[RB]? = some (.cells #[.int .i64 au, (.slice aZ ah.length aW)] 24 (0, 0))) ∧ ag (w'.heap[vY]? = some (.cells #[(.slice none 0 0), (.slice none 0 0), (.slice none 0 0)] 28 (0, 0))) ∧ ag (Below w.heap.size w w'))
     case atStart => exact ⟨(([] : List Int)), ((-1)), (0), zv, zv, H', ⟨Nat.le_refl _⟩, ⟨by refine jF ?_; exact Kd.aQ W9.out (fun _ hk => (by simp [Value.ownBlock]))⟩, ⟨Ab⟩, ⟨zK fH⟩, ⟨zK gV⟩, ⟨zB HB⟩⟩
     case round =>
      clear H'
      obtain ⟨fD, rQ, uz, rfl, rfl, HA, iU, fA, jN, fH, gV, HB⟩ := hrel; cases gk with
      | zero => exact absurd HA.out (by simp [bV.l0])
      | succ k1 =>
       have H := HA.out; clear HA; simp only [bV.l0] at H; by_cases Cf : uz < yG
       · rw [if_pos Cf] at H; have IY := decide_eq_true Cf; clear Cf; have H' := zA H; clear H; go_wp2; go_loopg [14, 48] k1 (fun kq v14 v48 w' => ∃ (wM : Int) (qN : Int), v14 = .int .u64 wM ∧ v48 = .int .i64 qN ∧ ag (bV.l1 kq a2 AO l7 fD rQ uz wM yG uz l7 (l7.length : Int) qN au ah = some (r1, r2, r3, r4)) ∧ ag (kq ≤ k1) ∧ ag (Kd.R (Kd.int .i64) 3 w' w.heap.size (fun k_ => some k_ ≠ (u11 : Value).ownBlock) (.slice tZ l7.length uf) l7) ∧ ag (Kd.R (Kd.int .i64) 3 w' w.heap.size (fun k_ => some k_ ≠ ((.slice tZ l7.length uf) : Value).ownBlock ∧ some k_ ≠ ((.slice tZ l7.length uf) : Value).ownBlock) u11 fD) ∧ ag (Kd.R (Kd.int .i64) 3 w' w.heap.size (fun k_ => some k_ ≠ (u11 : Value).ownBlock) (.slice tZ l7.length uf) l7) ∧ ag (w'.heap[RB]? = some (.cells #[.int .i64 au, (.slice aZ ah.length aW)] 24 (0, 0))) ∧ ag (w'.heap[vY]? = some (.cells #[(.slice none 0 0), (.slice none 0 0), (.slice none 0 0)] 28 (0, 0))) ∧ ag (Below w.heap.size w w'))
         case atStart => exact ⟨(AO), (0), zv, zv, H', ⟨Nat.le_refl _⟩, ⟨zR fA⟩, ⟨by refine jF ?_; exact Kd.aQ jN.out (fun _ hk => ⟨hk, hk⟩)⟩, ⟨zR fA⟩, ⟨zK fH⟩, ⟨zK gV⟩, ⟨zB HB⟩⟩
         case round =>
          clear H'
          obtain ⟨wM, qN, rfl, rfl, HA, mo, fA, jN, mI, fH, gV, HB⟩ := hrel; cases gk with
          | zero => exact absurd HA.out (by simp [bV.l1])
          | succ k2 =>
           have H := HA.out; clear HA; simp only [bV.l1] at H; by_cases c31 : qN < (l7.length : Int)
           · rw [if_pos c31] at H; have Nb := decide_eq_true c31; clear c31; by_cases c32 : 0 ≤ qN
             · rw [if_pos c32] at H; have Q5 := decide_eq_true c32; clear c32; by_cases Cj : qN < (l7.length : Int)
               · rw [if_pos Cj] at H; have I9 := decide_eq_true Cj; clear Cj; have KD := eq_true (zo : 0 ≤ qN); obtain ⟨RG, Xa⟩ : ∃ j_ : Int, (shr .i64 uz qN) = j_ := ⟨_, rfl⟩; replace H : (if (Go.bits .and .i64 (RG) 1) = 1 then ((fM.f wM (rd l7 qN)).bind fun Zl => (bV.l1 k2 a2 AO l7 fD rQ uz Zl yG uz l7 (l7.length : Int) (wrap64 (qN + 1)) au ah)) else (bV.l1 k2 a2 AO l7 fD rQ uz wM yG uz l7 (l7.length : Int) (wrap64 (qN + 1)) au ah)) = some (r1, r2, r3, r4) := by first | (rw [Xa] at H; exact H) | (simp only [Xa] at H ⊢; exact H)
                 have avc : (uz / 2 ^ min qN.toNat 64) = RG := Xa; have avd : qN ≤ 64 → (uz / 2 ^ qN.toNat) = RG := G7 Xa; by_cases c36 : (Go.bits .and .i64 (RG) 1) = 1
                 · rw [if_pos c36] at H; have apG : ((Go.bits .and .i64 (RG) 1) == 1) = true := beq_iff_eq.mpr c36; have apH : ((Go.bits .and .i64 (RG) 1) != 1) = false := bne_eq_false_iff_eq.mpr c36; clear c36; replace H := zE H; obtain ⟨Zl, A37, H⟩ := H; (try dsimp only at H); have H' := zA H; clear H; have UM : 0 ≤ (qN : Int) := zo; have UN : qN < (l7.length : Int) := zo; obtain ⟨apI, akG, ae2⟩ := Kd.eP (Kd.aU mI.out).2.2 qN UM UN; cases akG; replace UM := eq_true UM; replace UN := eq_true UN; go_wp2_with (first | ((with_reducible refine ay (f := 51) rfl ?_); refine zG (some 60) rfl Tryd.func51 #[.int .u64 wM, .int .i64 (rd l7 qN)] ?_; (with_reducible refine (fM.calls wM (rd l7 qN) Zl _ A37.out).mono ?_); rintro e w' ⟨rfl, ⟨nd, rfl⟩⟩; refine ⟨_, rfl, ?_⟩)); go_roundg k2
                   case measure => have := iU.out; have := mo.out; omega
                   case rel => exact ⟨(Zl), (wrap64 (qN + 1)), zv, zv, H', ⟨by have := iU.out; have := mo.out; omega⟩, ⟨zR fA⟩, ⟨zR jN⟩, ⟨zR mI⟩, ⟨zK fH⟩, ⟨zK gV⟩, ⟨zB HB⟩⟩
                 · rw [if_neg c36] at H; have apG : ((Go.bits .and .i64 (RG) 1) == 1) = false := beq_eq_false_iff_ne.mpr c36; have apH : ((Go.bits .and .i64 (RG) 1) != 1) = true := bne_iff_ne.mpr c36; have H' := zA H; clear H; have UM : 0 ≤ (qN : Int) := zo; have UN : qN < (l7.length : Int) := zo; obtain ⟨apI, akG, ae2⟩ := Kd.eP (Kd.aU mI.out).2.2 qN UM UN; cases akG; replace UM := eq_true UM; replace UN := eq_true UN; go_wp2; go_roundg k2
                   case measure => have := iU.out; have := mo.out; omega
                   case rel => exact ⟨(wM), (wrap64 (qN + 1)), zv, zv, H', ⟨by have := iU.out; have := mo.out; omega⟩, ⟨zR fA⟩, ⟨zR jN⟩, ⟨zR mI⟩, ⟨zK fH⟩, ⟨zK gV⟩, ⟨zB HB⟩⟩
               · rw [if_neg Cj] at H; exact absurd H (by simp)
             · rw [if_neg c32] at H; exact absurd H (by simp)
           · rw [if_neg c31] at H; have Nb := decide_eq_false c31; clear c31; replace H := zE H; obtain ⟨sH, A38, H⟩ := H; (try dsimp only at H); replace H := zE H; obtain ⟨akC, A39, H⟩ := H; (try dsimp only at H); by_cases c40 : akC = true
             · subst c40; rw [if_pos rfl] at H; have H' := zA H; clear H; go_wp2_with (first | ((with_reducible refine ay (f := 50) rfl ?_); refine zG (some 63) rfl Tryd.func50 #[.int .u64 wM] ?_; (with_reducible refine (bQ.calls k2 wM sH _ ?aI A38.out).mono ?_); (case aI => exact kQ.now lM.out (zB HB)); rintro e w41 ⟨akH, rfl, ho0, hb⟩; refine ⟨_, rfl, ?_⟩; have j6 := zA (Kd.dw (Kd.gz (Kd.gz (Kd.gz ho0 (Kd.kP (zR fA))) (Kd.kP (zR jN))) (Kd.kP (zR mI))) (aJ (zB HB))); replace fA := zA (Kd.dQ (zR fA) (Kd.fe ho0) hb); replace jN := zA (Kd.dQ (zR jN) (Kd.fe ho0) hb); replace mI := zA (Kd.dQ (zR mI) (Kd.fe ho0) hb); replace fH := zA (dn fH hb); replace gV := zA (dn gV hb); replace HB := zA (af (zB HB) hb); have Rm := qB.out; have Rn := qC.out; obtain ⟨_, _, _, _⟩ := iG fH; obtain ⟨OX, Mq, akz⟩ := Kd.bD j6.out; subst akz) | ((with_reducible refine ay (f := 46) rfl ?_); refine zG (some 67) rfl Tryd.func46 #[.agg #[.int .i64 au, .slice aZ ah.length aW], .slice OX sH.length Mq, .int .i64 a2] ?_; (with_reducible refine (ig.calls au _ _ ah _ _ sH a2 true _ ?aI ?aN ?bS ?bT A39.out).mono ?_); (case aI => exact jB cz HB); (case aN => exact dX.out); (case bS => repeat (first | exact (Kd.aU j6.out).2.2 | (with_reducible refine Kd.dY ?_ _) | (with_reducible refine Kd.dZ ?_ _) | (with_reducible refine Kd.fB ?_))); (case bT => exact (Kd.aU j6.out).2.1); rintro e w45 ⟨rfl, hb⟩; refine ⟨_, rfl, ?_⟩; replace fA := zA (Kd.bf (zR fA) hb); replace jN := zA (Kd.bf (zR jN) hb); replace mI := zA (Kd.bf (zR mI) hb); replace j6 := zA (Kd.bf (zR j6) hb); replace fH := zA (dn fH hb); replace gV := zA (dn gV hb); replace HB := zA (af (zB HB) hb))); go_roundg k2
               case measure => have := iU.out; have := mo.out; omega
               case rel => exact ⟨(fD), (rQ), (wrap64 (uz + 1)), zv, zv, H', ⟨by have := iU.out; have := mo.out; omega⟩, ⟨by refine jF ?_; exact Kd.aQ fA.out (fun _ hk => hk.1)⟩, ⟨by refine jF ?_; exact Kd.aQ jN.out (fun _ hk => hk.1.1)⟩, ⟨zK fH⟩, ⟨zK gV⟩, ⟨zB HB⟩⟩
             · replace c40 := Bool.eq_false_iff.mpr c40; subst c40; rw [if_neg (show ¬ (false = true) by decide)] at H; replace H := zE H; obtain ⟨Jt, A46, H⟩ := H; (try dsimp only at H); by_cases KX : rQ < 0
               · rw [if_pos KX] at H; have WH := decide_eq_true KX; clear KX; have H' := zA H; clear H; go_wp2_with (first | ((with_reducible refine ay (f := 50) rfl ?_); refine zG (some 63) rfl Tryd.func50 #[.int .u64 wM] ?_; (with_reducible refine (bQ.calls k2 wM sH _ ?aI A38.out).mono ?_); (case aI => exact kQ.now lM.out (zB HB)); rintro e w48 ⟨akH, rfl, ho0, hb⟩; refine ⟨_, rfl, ?_⟩; have j6 := zA (Kd.dw (Kd.gz (Kd.gz (Kd.gz ho0 (Kd.kP (zR fA))) (Kd.kP (zR jN))) (Kd.kP (zR mI))) (aJ (zB HB))); replace fA := zA (Kd.dQ (zR fA) (Kd.fe ho0) hb); replace jN := zA (Kd.dQ (zR jN) (Kd.fe ho0) hb); replace mI := zA (Kd.dQ (zR mI) (Kd.fe ho0) hb); replace fH := zA (dn fH hb); replace gV := zA (dn gV hb); replace HB := zA (af (zB HB) hb); have anE := qB.out; have anF := qC.out; obtain ⟨_, _, _, _⟩ := iG fH; obtain ⟨apJ, apK, ave⟩ := Kd.bD j6.out; subst ave) | ((with_reducible refine ay (f := 46) rfl ?_); refine zG (some 67) rfl Tryd.func46 #[.agg #[.int .i64 au, .slice aZ ah.length aW], .slice apJ sH.length apK, .int .i64 a2] ?_; (with_reducible refine (ig.calls au _ _ ah _ _ sH a2 false _ ?aI ?aN ?bS ?bT A39.out).mono ?_); (case aI => exact jB cz HB); (case aN => exact dX.out); (case bS => repeat (first | exact (Kd.aU j6.out).2.2 | (with_reducible refine Kd.dY ?_ _) | (with_reducible refine Kd.dZ ?_ _) | (with_reducible refine Kd.fB ?_))); (case bT => exact (Kd.aU j6.out).2.1); rintro e w52 ⟨rfl, hb⟩; refine ⟨_, rfl, ?_⟩; replace fA := zA (Kd.bf (zR fA) hb); replace jN := zA (Kd.bf (zR jN) hb); replace mI := zA (Kd.bf (zR mI) hb); replace j6 := zA (Kd.bf (zR j6) hb); replace fH := zA (dn fH hb); replace gV := zA (dn gV hb); replace HB := zA (af (zB HB) hb); obtain ⟨_, _, _, _⟩ := iG fH) | ((with_reducible refine ay (f := 52) rfl ?_); refine zG (some 71) rfl Tryd.func52 #[.agg #[.int .i64 au, .slice aZ ah.length aW], .slice apJ sH.length apK, .int .i64 a2] ?_; (with_reducible refine (aM.calls k2 au _ _ ah _ _ sH a2 Jt _ ?aI ?aN ?bS ?bT ?jh A46.out).mono ?_); (case aI => exact jB cz HB); (case aN => exact dX.out); (case bS => repeat (first | exact (Kd.aU j6.out).2.2 | (with_reducible refine Kd.dY ?_ _) | (with_reducible refine Kd.dZ ?_ _) | (with_reducible refine Kd.fB ?_))); (case bT => exact (Kd.aU j6.out).2.1); (case jh => exact kQ.now lM.out (zB HB)); rintro e w54 ⟨apL, rfl, ho0, hb⟩; refine ⟨_, rfl, ?_⟩; have FX := zA (Kd.pI ho0 (aJ (zB HB))); replace fA := zA (Kd.bf (zR fA) hb); replace jN := zA (Kd.bf (zR jN) hb); replace mI := zA (Kd.bf (zR mI) hb); replace j6 := zA (Kd.bf (zR j6) hb); replace fH := zA (dn fH hb); replace gV := zA (dn gV hb); replace HB := zA (af (zB HB) hb); obtain ⟨aCy, aCz, avf⟩ := Kd.kX FX.out; subst avf)); go_roundg k2
                 case measure => have := iU.out; have := mo.out; omega
                 case rel => exact ⟨(sH), ((Jt.length : Int)), (wrap64 (uz + 1)), zv, zv, H', ⟨by have := iU.out; have := mo.out; omega⟩, ⟨by refine jF ?_; exact Kd.aQ fA.out (fun _ hk => hk.2)⟩, ⟨by refine jF ?_; exact Kd.aQ j6.out (fun _ hk => hk.1.1.2)⟩, ⟨zK fH⟩, ⟨zK gV⟩, ⟨zB HB⟩⟩
               · rw [if_neg KX] at H; have WH := decide_eq_false KX; clear KX; replace H := zE H; obtain ⟨Ib, A56, H⟩ := H; (try dsimp only at H); replace H := zE H; obtain ⟨Ic, A57, H⟩ := H; (try dsimp only at H); replace H := zE H; obtain ⟨Ie, A58, H⟩ := H; (try dsimp only at H); obtain ⟨akI, RH⟩ : ∃ y_ : List Int, y_ = (([Ib, Ic, Ie] : List Int)) := ⟨_, rfl⟩; replace H : ((eX.f k2 akI).bind fun UK => (if UK < 0 then (bV.l0 k2 a2 AO l7 sH (Jt.length : Int) yG (wrap64 (uz + 1)) au ah) else (bV.l0 k2 a2 AO l7 fD rQ yG (wrap64 (uz + 1)) au ah))) = some (r1, r2, r3, r4) := by first | (rw [RH]; with_reducible exact H) | (have iW := (Option.bind_some _ _).symm.trans H; rw [RH]; with_reducible exact iW) | (have iW := (Option.bind_some _ _).symm.trans H; with_reducible exact iW) | with_reducible exact H | (rw [RH]; exact H) | exact H
                 have Xb := zA RH; clear RH; replace H := zE H; obtain ⟨UK, A59, H⟩ := H; (try dsimp only at H); by_cases c60 : UK < 0
                 · rw [if_pos c60] at H; have agC := decide_eq_true c60; clear c60; have H' := zA H; clear H; go_wp2_with (first | ((with_reducible refine ay (f := 50) rfl ?_); refine zG (some 63) rfl Tryd.func50 #[.int .u64 wM] ?_; (with_reducible refine (bQ.calls k2 wM sH _ ?aI A38.out).mono ?_); (case aI => exact kQ.now lM.out (zB HB)); rintro e w61 ⟨akH, rfl, ho0, hb⟩; refine ⟨_, rfl, ?_⟩; have j6 := zA (Kd.dw (Kd.gz (Kd.gz (Kd.gz ho0 (Kd.kP (zR fA))) (Kd.kP (zR jN))) (Kd.kP (zR mI))) (aJ (zB HB))); replace fA := zA (Kd.dQ (zR fA) (Kd.fe ho0) hb); replace jN := zA (Kd.dQ (zR jN) (Kd.fe ho0) hb); replace mI := zA (Kd.dQ (zR mI) (Kd.fe ho0) hb); replace fH := zA (dn fH hb); replace gV := zA (dn gV hb); replace HB := zA (af (zB HB) hb); have ahe := qB.out; have ahf := qC.out; obtain ⟨_, _, _, _⟩ := iG fH; obtain ⟨uM, uA, akJ⟩ := Kd.bD j6.out; subst akJ) | ((with_reducible refine ay (f := 46) rfl ?_); refine zG (some 67) rfl Tryd.func46 #[.agg #[.int .i64 au, .slice aZ ah.length aW], .slice uM sH.length uA, .int .i64 a2] ?_; (with_reducible refine (ig.calls au _ _ ah _ _ sH a2 false _ ?aI ?aN ?bS ?bT A39.out).mono ?_); (case aI => exact jB cz HB); (case aN => exact dX.out); (case bS => repeat (first | exact (Kd.aU j6.out).2.2 | (with_reducible refine Kd.dY ?_ _) | (with_reducible refine Kd.dZ ?_ _) | (with_reducible refine Kd.fB ?_))); (case bT => exact (Kd.aU j6.out).2.1); rintro e w65 ⟨rfl, hb⟩; refine ⟨_, rfl, ?_⟩; replace fA := zA (Kd.bf (zR fA) hb); replace jN := zA (Kd.bf (zR jN) hb); replace mI := zA (Kd.bf (zR mI) hb); replace j6 := zA (Kd.bf (zR j6) hb); replace fH := zA (dn fH hb); replace gV := zA (dn gV hb); replace HB := zA (af (zB HB) hb); obtain ⟨_, _, _, _⟩ := iG fH) | ((with_reducible refine ay (f := 52) rfl ?_); refine zG (some 71) rfl Tryd.func52 #[.agg #[.int .i64 au, .slice aZ ah.length aW], .slice uM sH.length uA, .int .i64 a2] ?_; (with_reducible refine (aM.calls k2 au _ _ ah _ _ sH a2 Jt _ ?aI ?aN ?bS ?bT ?jh A46.out).mono ?_); (case aI => exact jB cz HB); (case aN => exact dX.out); (case bS => repeat (first | exact (Kd.aU j6.out).2.2 | (with_reducible refine Kd.dY ?_ _) | (with_reducible refine Kd.dZ ?_ _) | (with_reducible refine Kd.fB ?_))); (case bT => exact (Kd.aU j6.out).2.1); (case jh => exact kQ.now lM.out (zB HB)); rintro e w67 ⟨apL, rfl, ho0, hb⟩; refine ⟨_, rfl, ?_⟩; have FX := zA (Kd.pI ho0 (aJ (zB HB))); replace fA := zA (Kd.bf (zR fA) hb); replace jN := zA (Kd.bf (zR jN) hb); replace mI := zA (Kd.bf (zR mI) hb); replace j6 := zA (Kd.bf (zR j6) hb); replace fH := zA (dn fH hb); replace gV := zA (dn gV hb); replace HB := zA (af (zB HB) hb); obtain ⟨OY, Ms, ace⟩ := Kd.kX FX.out; subst ace) | (go_at_call 54; (with_reducible refine (cmp_Compare_int.calls (Jt.length : Int) rQ Ib _ A56.out).mono ?_); rintro e w' ⟨rfl, ⟨nd, rfl⟩⟩; obtain ⟨UO, RI, akK⟩ := Kd.bD jN.out; subst akK) | (go_at_call 54; (with_reducible refine (cmp_Compare_int.calls (sH.length : Int) (fD.length : Int) Ic _ A57.out).mono ?_); rintro e w' ⟨rfl, ⟨nd, rfl⟩⟩) | (go_at_call 55; (with_reducible refine (dz.calls k2 _ _ sH _ _ fD Ie _ ?aI ?aN ?bS ?bT A58.out).mono ?_); (case aI => repeat (first | exact (Kd.aU j6.out).2.2 | (with_reducible refine Kd.dY ?_ _) | (with_reducible refine Kd.dZ ?_ _) | (with_reducible refine Kd.fB ?_))); (case aN => exact (Kd.aU j6.out).2.1); (case bS => repeat (first | exact (Kd.aU jN.out).2.2 | (with_reducible refine Kd.dY ?_ _) | (with_reducible refine Kd.dZ ?_ _) | (with_reducible refine Kd.fB ?_))); (case bT => exact (Kd.aU jN.out).2.1); rintro e w' ⟨rfl, ⟨nd, rfl⟩⟩) | ((with_reducible refine aH (N := 87) rfl ?_); (try (refine iV (by rfl) ?_; dsimp only)); refine Kd.IP (Kd.int .i64) _ 3 ?hg (N := 87) ?hd (xs := ([Ib, Ic, Ie] : List Int)) (inner := [.int .i64 Ib, .int .i64 Ic, .int .i64 Ie]) (ok := fun _ => True) (tX := fun _ => True) ?hr ?hp (fun _ hk => hk) trivial (Below.refl _ _) (Nat.le_refl _) (by simp) ?_; (case hd => rfl); (case hg => rfl); (case hr => first | (go_simp; done) | (go_simp; rfl)); (case hp => exact (gP.one (show Kd.M (Kd.int .i64) _ _ _ Ib [.int .i64 Ib] from rfl) (gP.one (show Kd.M (Kd.int .i64) _ _ _ Ic [.int .i64 Ic] from rfl) (gP.one (show Kd.M (Kd.int .i64) _ _ _ Ie [.int .i64 Ie] from rfl) (gP.none _ _))))); intro avg w70 OZ hb Ac lS; clear Ac lS; (first | rw [← Xb.out] at OZ | (simp only [Int.reduceToNat] at OZ; rw [← Xb.out] at OZ)); have Lc := zA (Kd.dw (Kd.gz (Kd.gz (Kd.gz (Kd.gz OZ (Kd.kP (zR fA))) (Kd.kP (zR jN))) (Kd.kP (zR mI))) (Kd.kP (zR j6))) (aJ (zB HB))); replace fA := zA (Kd.dQ (zR fA) (Kd.fe OZ) hb); replace jN := zA (Kd.dQ (zR jN) (Kd.fe OZ) hb); replace mI := zA (Kd.dQ (zR mI) (Kd.fe OZ) hb); replace j6 := zA (Kd.dQ (zR j6) (Kd.fe OZ) hb); replace FX := zA (Kd.iY (zS FX) hb); replace fH := zA (dn fH hb); replace gV := zA (dn gV hb); replace HB := zA (af (zB HB) hb); clear hb OZ; obtain ⟨Zd, Ze, akr⟩ := Kd.bD Lc.out; subst akr) | (go_at_call 53; (with_reducible refine (eX.calls k2 _ _ akI UK _ ?aI ?aN A59.out).mono ?_); (case aI => repeat (first | exact (Kd.aU Lc.out).2.2 | (with_reducible refine Kd.dY ?_ _) | (with_reducible refine Kd.dZ ?_ _) | (with_reducible refine Kd.fB ?_))); (case aN => exact (Kd.aU Lc.out).2.1); rintro e w' ⟨rfl, ⟨nd, rfl⟩⟩)); go_roundg k2
                   case measure => have := iU.out; have := mo.out; omega
                   case rel => exact ⟨(sH), ((Jt.length : Int)), (wrap64 (uz + 1)), zv, zv, H', ⟨by have := iU.out; have := mo.out; omega⟩, ⟨by refine jF ?_; exact Kd.aQ fA.out (fun _ hk => hk.1.2)⟩, ⟨by refine jF ?_; exact Kd.aQ j6.out (fun _ hk => hk.1.1.1.2)⟩, ⟨zK fH⟩, ⟨zK gV⟩, ⟨zB HB⟩⟩
                 · rw [if_neg c60] at H; have agC := decide_eq_false c60; clear c60; have H' := zA H; clear H; go_wp2_with (first | ((with_reducible refine ay (f := 50) rfl ?_); refine zG (some 63) rfl Tryd.func50 #[.int .u64 wM] ?_; (with_reducible refine (bQ.calls k2 wM sH _ ?aI A38.out).mono ?_); (case aI => exact kQ.now lM.out (zB HB)); rintro e w73 ⟨akH, rfl, ho0, hb⟩; refine ⟨_, rfl, ?_⟩; have j6 := zA (Kd.dw (Kd.gz (Kd.gz (Kd.gz ho0 (Kd.kP (zR fA))) (Kd.kP (zR jN))) (Kd.kP (zR mI))) (aJ (zB HB))); replace fA := zA (Kd.dQ (zR fA) (Kd.fe ho0) hb); replace jN := zA (Kd.dQ (zR jN) (Kd.fe ho0) hb); replace mI := zA (Kd.dQ (zR mI) (Kd.fe ho0) hb); replace fH := zA (dn fH hb); replace gV := zA (dn gV hb); replace HB := zA (af (zB HB) hb); have apM := qB.out; have apN := qC.out; obtain ⟨_, _, _, _⟩ := iG fH; obtain ⟨apO, apP, avh⟩ := Kd.bD j6.out; subst avh) | ((with_reducible refine ay (f := 46) rfl ?_); refine zG (some 67) rfl Tryd.func46 #[.agg #[.int .i64 au, .slice aZ ah.length aW], .slice apO sH.length apP, .int .i64 a2] ?_; (with_reducible refine (ig.calls au _ _ ah _ _ sH a2 false _ ?aI ?aN ?bS ?bT A39.out).mono ?_); (case aI => exact jB cz HB); (case aN => exact dX.out); (case bS => repeat (first | exact (Kd.aU j6.out).2.2 | (with_reducible refine Kd.dY ?_ _) | (with_reducible refine Kd.dZ ?_ _) | (with_reducible refine Kd.fB ?_))); (case bT => exact (Kd.aU j6.out).2.1); rintro e w77 ⟨rfl, hb⟩; refine ⟨_, rfl, ?_⟩; replace fA := zA (Kd.bf (zR fA) hb); replace jN := zA (Kd.bf (zR jN) hb); replace mI := zA (Kd.bf (zR mI) hb); replace j6 := zA (Kd.bf (zR j6) hb); replace fH := zA (dn fH hb); replace gV := zA (dn gV hb); replace HB := zA (af (zB HB) hb); obtain ⟨_, _, _, _⟩ := iG fH) | ((with_reducible refine ay (f := 52) rfl ?_); refine zG (some 71) rfl Tryd.func52 #[.agg #[.int .i64 au, .slice aZ ah.length aW], .slice apO sH.length apP, .int .i64 a2] ?_; (with_reducible refine (aM.calls k2 au _ _ ah _ _ sH a2 Jt _ ?aI ?aN ?bS ?bT ?jh A46.out).mono ?_); (case aI => exact jB cz HB); (case aN => exact dX.out); (case bS => repeat (first | exact (Kd.aU j6.out).2.2 | (with_reducible refine Kd.dY ?_ _) | (with_reducible refine Kd.dZ ?_ _) | (with_reducible refine Kd.fB ?_))); (case bT => exact (Kd.aU j6.out).2.1); (case jh => exact kQ.now lM.out (zB HB)); rintro e w79 ⟨apL, rfl, ho0, hb⟩; refine ⟨_, rfl, ?_⟩; have FX := zA (Kd.pI ho0 (aJ (zB HB))); replace fA := zA (Kd.bf (zR fA) hb); replace jN := zA (Kd.bf (zR jN) hb); replace mI := zA (Kd.bf (zR mI) hb); replace j6 := zA (Kd.bf (zR j6) hb); replace fH := zA (dn fH hb); replace gV := zA (dn gV hb); replace HB := zA (af (zB HB) hb); obtain ⟨BC, AP, akL⟩ := Kd.kX FX.out; subst akL) | (go_at_call 54; (with_reducible refine (cmp_Compare_int.calls (Jt.length : Int) rQ Ib _ A56.out).mono ?_); rintro e w' ⟨rfl, ⟨nd, rfl⟩⟩; obtain ⟨aCC, aCD, avi⟩ := Kd.bD jN.out; subst avi) | (go_at_call 54; (with_reducible refine (cmp_Compare_int.calls (sH.length : Int) (fD.length : Int) Ic _ A57.out).mono ?_); rintro e w' ⟨rfl, ⟨nd, rfl⟩⟩) | (go_at_call 55; (with_reducible refine (dz.calls k2 _ _ sH _ _ fD Ie _ ?aI ?aN ?bS ?bT A58.out).mono ?_); (case aI => repeat (first | exact (Kd.aU j6.out).2.2 | (with_reducible refine Kd.dY ?_ _) | (with_reducible refine Kd.dZ ?_ _) | (with_reducible refine Kd.fB ?_))); (case aN => exact (Kd.aU j6.out).2.1); (case bS => repeat (first | exact (Kd.aU jN.out).2.2 | (with_reducible refine Kd.dY ?_ _) | (with_reducible refine Kd.dZ ?_ _) | (with_reducible refine Kd.fB ?_))); (case bT => exact (Kd.aU jN.out).2.1); rintro e w' ⟨rfl, ⟨nd, rfl⟩⟩) | ((with_reducible refine aH (N := 87) rfl ?_); (try (refine iV (by rfl) ?_; dsimp only)); refine Kd.IP (Kd.int .i64) _ 3 ?hg (N := 87) ?hd (xs := ([Ib, Ic, Ie] : List Int)) (inner := [.int .i64 Ib, .int .i64 Ic, .int .i64 Ie]) (ok := fun _ => True) (tX := fun _ => True) ?hr ?hp (fun _ hk => hk) trivial (Below.refl _ _) (Nat.le_refl _) (by simp) ?_; (case hd => rfl); (case hg => rfl); (case hr => first | (go_simp; done) | (go_simp; rfl)); (case hp => exact (gP.one (show Kd.M (Kd.int .i64) _ _ _ Ib [.int .i64 Ib] from rfl) (gP.one (show Kd.M (Kd.int .i64) _ _ _ Ic [.int .i64 Ic] from rfl) (gP.one (show Kd.M (Kd.int .i64) _ _ _ Ie [.int .i64 Ie] from rfl) (gP.none _ _))))); intro avg w82 O0 hb Ac lS; clear Ac lS; (first | rw [← Xb.out] at O0 | (simp only [Int.reduceToNat] at O0; rw [← Xb.out] at O0)); have Lc := zA (Kd.dw (Kd.gz (Kd.gz (Kd.gz (Kd.gz O0 (Kd.kP (zR fA))) (Kd.kP (zR jN))) (Kd.kP (zR mI))) (Kd.kP (zR j6))) (aJ (zB HB))); replace fA := zA (Kd.dQ (zR fA) (Kd.fe O0) hb); replace jN := zA (Kd.dQ (zR jN) (Kd.fe O0) hb); replace mI := zA (Kd.dQ (zR mI) (Kd.fe O0) hb); replace j6 := zA (Kd.dQ (zR j6) (Kd.fe O0) hb); replace FX := zA (Kd.iY (zS FX) hb); replace fH := zA (dn fH hb); replace gV := zA (dn gV hb); replace HB := zA (af (zB HB) hb); clear hb O0; obtain ⟨Ux, Uy, akc⟩ := Kd.bD Lc.out; subst akc) | (go_at_call 53; (with_reducible refine (eX.calls k2 _ _ akI UK _ ?aI ?aN A59.out).mono ?_); (case aI => repeat (first | exact (Kd.aU Lc.out).2.2 | (with_reducible refine Kd.dY ?_ _) | (with_reducible refine Kd.dZ ?_ _) | (with_reducible refine Kd.fB ?_))); (case aN => exact (Kd.aU Lc.out).2.1); rintro e w' ⟨rfl, ⟨nd, rfl⟩⟩)); go_roundg k2
                   case measure => have := iU.out; have := mo.out; omega
                   case rel => exact ⟨(fD), (rQ), (wrap64 (uz + 1)), zv, zv, H', ⟨by have := iU.out; have := mo.out; omega⟩, ⟨by refine jF ?_; exact Kd.aQ fA.out (fun _ hk => hk.1.1)⟩, ⟨by refine jF ?_; exact Kd.aQ jN.out (fun _ hk => hk.1.1.1)⟩, ⟨zK fH⟩, ⟨zK gV⟩, ⟨zB HB⟩⟩
       · rw [if_neg Cf] at H; have IY := decide_eq_false Cf; clear Cf; replace H := Option.bind_eq_some_iff.mp H; obtain ⟨⟨UQ, Zn, acf⟩, apQ, H⟩ := H; (try dsimp only at H); have A85 := zA apQ; clear apQ; simp only [Option.some.injEq, Prod.mk.injEq] at H; obtain ⟨rfl, rfl, rfl, rfl⟩ := H; have apl := qB.out; have apm := qC.out; obtain ⟨_, _, _, _⟩ := iG fH; obtain ⟨avj, avk, avl⟩ := Kd.bD jN.out; subst avl; go_wp2_with (first | ((with_reducible refine ay (f := 47) rfl ?_); refine zG (some 97) rfl Tryd.func47 #[.agg #[.int .i64 au, .slice aZ ah.length aW], .slice avj fD.length avk, .int .i64 a2] ?_; (with_reducible refine (bN.calls k1 au _ _ ah _ _ fD a2 UQ Zn acf _ ?aI ?aN ?bS ?bT ?jh A85.out).mono ?_); (case aI => exact jB cz HB); (case aN => exact dX.out); (case bS => repeat (first | exact (Kd.aU jN.out).2.2 | (with_reducible refine Kd.dY ?_ _) | (with_reducible refine Kd.dZ ?_ _) | (with_reducible refine Kd.fB ?_))); (case bT => exact (Kd.aU jN.out).2.1); (case jh => exact kQ.now lM.out (zB HB)); rintro e w89 ⟨aCF, aCG, aCH, rfl, ho0, ho1, ho2, hb⟩; refine ⟨_, rfl, ?_⟩; have ahg := zA (Kd.dw (Kd.gz (Kd.gz ho0 (Kd.kP (zR fA))) (Kd.kP (zR jN))) (aJ (zB HB))); have ahh := zA (Kd.dw ho1 (aJ (zB HB))); have ahi := zA (Kd.pI ho2 (aJ (zB HB))); replace fA := zA (Kd.dQ (zR fA) (Kd.fe ho0) hb); replace jN := zA (Kd.dQ (zR jN) (Kd.fe ho0) hb); replace fH := zA (dn fH hb); replace gV := zA (dn gV hb); replace HB := zA (af (zB HB) hb); obtain ⟨Cw, BB, abO⟩ := Kd.bD ahg.out; subst abO; obtain ⟨_, _, _, _, _, _⟩ := nG gV; obtain ⟨acg, ach, avm⟩ := Kd.bD ahh.out; subst avm; obtain ⟨ae3, ae4, avn⟩ := Kd.kX ahi.out; subst avn)); refine bodyPost_ret (iw rfl _ _ vY 28 #[.slice Cw UQ.length BB, .slice acg Zn.length ach, .slice ae3 acf.length ae4] (0, 0) _ rfl (by refine zk ?_; refine aV (cs := #[.slice Cw UQ.length BB, .slice acg Zn.length ach, .slice none 0 0]) ?_ 2 _ rfl; refine zk ?_; refine aV (cs := #[.slice Cw UQ.length BB, .slice none 0 0, .slice none 0 0]) ?_ 1 _ rfl; refine zk ?_; refine aV (cs := #[.slice none 0 0, .slice none 0 0, .slice none 0 0]) ?_ 0 _ rfl; refine zk ?_; exact gV.out) Tryd.underlying28 rfl (by kernel_rfl)) rfl ?_; exact ⟨_, _, _, by first | rfl | (simp [jf, jg] <;> rfl) | (simp only [← yQ]; first | rfl | (simp [jf, jg] <;> rfl)) | (simp [*, jf, jg] <;> rfl), by refine jF ?_; exact Kd.aQ (Kd.aT (p := ⟨vY, 2, none⟩) (Kd.aT (p := ⟨vY, 1, none⟩) (Kd.aT (p := ⟨vY, 0, none⟩) (Kd.bJ ahg.out gV.out (by decide)) (fun _ hk => hk.2) (.slice Cw UQ.length BB)) (fun _ hk => hk.2) (.slice acg Zn.length ach)) (fun _ hk => hk.2) (.slice ae3 acf.length ae4)) (fun _ hk => trivial), by refine jF ?_; exact Kd.aQ (Kd.aT (p := ⟨vY, 2, none⟩) (Kd.aT (p := ⟨vY, 1, none⟩) (Kd.aT (p := ⟨vY, 0, none⟩) (Kd.bJ ahh.out gV.out (by decide)) (fun _ hk => hk.2) (.slice Cw UQ.length BB)) (fun _ hk => hk.2) (.slice acg Zn.length ach)) (fun _ hk => hk.2) (.slice ae3 acf.length ae4)) (fun _ hk => trivial), by refine sM ?_; exact Kd.dF (Kd.eB (p := ⟨vY, 2, none⟩) (Kd.eB (p := ⟨vY, 1, none⟩) (Kd.eB (p := ⟨vY, 0, none⟩) (Kd.jY ahi.out gV.out (by decide)) (fun _ hk => hk.2) (.slice Cw UQ.length BB)) (fun _ hk => hk.2) (.slice acg Zn.length ach)) (fun _ hk => hk.2) (.slice ae3 acf.length ae4)) (fun _ hk => hk.1), zB HB⟩
 · rw [if_neg c5] at H; have pM : (FW == 0) = false := beq_eq_false_iff_ne.mpr c5; have yh : (FW != 0) = true := bne_iff_ne.mpr c5; simp only [Option.some.injEq, Prod.mk.injEq] at H; obtain ⟨rfl, rfl, rfl, rfl⟩ := H; go_enter Tryd.func25, Tryd.ntmps25; go_wp2_with (first | ((with_reducible refine aH (N := 3) rfl ?_); (try (refine iV (by rfl) ?_; dsimp only)); refine zX (N := 3) (cs := #[.int .i64 au, .slice aZ ah.length aW]) (t := 24) ?_; intro RB hg w94 aG hb; have fH := zA (aG); have ag9 := zA (zW hg HB); have aha := zA (zW hg HB); replace HB := zA (af (zB HB) hb); clear hb aG hg) | ((with_reducible refine aH (N := 6) rfl ?_); (try (refine iV (by rfl) ?_; dsimp only)); refine zX (N := 6) (cs := #[.slice none 0 0, .slice none 0 0, .slice none 0 0]) (t := 28) ?_; intro vY hg w95 aG hb; have gV := zA (aG); have ahb := zA (zW hg HB); have ahc := zA (zW hg HB); have qB := zA (lZ hg fH); have qC := zA (l5 hg fH); replace fH := zA (dn fH hb); replace HB := zA (af (zB HB) hb); clear hb aG hg; have azN := qB.out; have azO := qC.out; obtain ⟨_, _, _, _⟩ := iG fH) | ((with_reducible refine ay (f := 37) rfl ?_); refine zG (some 22) rfl Tryd.func37 #[.agg #[.int .i64 au, .slice aZ ah.length aW], .slice A1 l1.length c1, .int .i64 a2] ?_; (with_reducible refine (bK.calls k au _ _ ah _ _ l1 a2 FW _ ?aI ?aN ?bS ?bT A4.out).mono ?_); (case aI => exact jB cz HB); (case aN => exact dX.out); (case bS => exact jB HR1 HB); (case bT => exact rX.out); rintro e w98 ⟨rfl, hb⟩; refine ⟨_, rfl, ?_⟩; replace fH := zA (dn fH hb); replace gV := zA (dn gV hb); replace HB := zA (af (zB HB) hb); obtain ⟨_, _, _, _, _, _⟩ := nG gV)); refine bodyPost_ret (iw rfl _ _ vY 28 #[.slice none 0 0, .slice none 0 0, .slice none 0 0] (0, 0) _ rfl (by refine zk ?_; refine aV (cs := #[.slice none 0 0, .slice none 0 0, .slice none 0 0]) ?_ 2 _ rfl; refine zk ?_; refine aV (cs := #[.slice none 0 0, .slice none 0 0, .slice none 0 0]) ?_ 1 _ rfl; refine zk ?_; refine aV (cs := #[.slice none 0 0, .slice none 0 0, .slice none 0 0]) ?_ 0 _ rfl; refine zk ?_; exact gV.out) Tryd.underlying28 rfl (by kernel_rfl)) rfl ?_; exact ⟨_, _, _, ze, Ab, Ab, Ab, zB HB⟩
end Go.Proofs.YtjmdlmogdbhdhaaDoor.P
namespace Go.Proofs.YtjmdlmogdbhdhaaDoor.P
open Go.RowKit Go.Proofs.YtjmdlmogdbhdhaaDoorW.PrintWords Go.Proofs.YtjmdlmogdbhdhaaDoorW.PrintLast Go.Proofs.YtjmdlmogdbhdhaaDoorW.PrintMore
def RJ : List Int → Int
  | [] => 0
  | x :: r => if x = 0 then RJ r else x
theorem aci (l : List Int) (hl : l.length ≤ 1000000) : ∀ (n i : Nat), n + i = l.length → Ev (fun k => eX.l0 k 0 l (l.length : Int) (i : Int)) (RJ (l.drop i))
  | 0, i, hi => by
    refine Ev.succ ?_
    simp only [eX.l0]
    refine Ev.neg (by omega) ?_
    rw [List.drop_eq_nil_of_le (by omega)]
    exact Ev.const _
  | n + 1, i, hi => by
    have hlt : i < l.length := by omega
    have ih := aci l hl n (i + 1) (by omega)
    refine Ev.succ ?_
    simp only [eX.l0, pQ l i hlt, Ck i (by omega)]
    refine Ev.pos (by omega) (Ev.pos (by omega) (Ev.pos (by omega) ?_))
    rw [List.drop_eq_getElem_cons hlt, RJ]
    by_cases h : l[i] = 0
    · rw [if_pos h]
      exact Ev.pos h ih
    · rw [if_neg h]
      exact Ev.neg h (Ev.const _)
theorem akM (l : List Int) (hl : l.length ≤ 1000000) : Ev (fun k => eX.f k l) (RJ l) := by
  have := aci l hl l.length 0 (by omega)
  simp only [eX.f]
  exact this
def cmpL : List Int → List Int → Int
  | [], [] => 0
  | [], _ :: _ => -1
  | _ :: _, [] => 1
  | x :: r, y :: t => if o8 x y = 0 then cmpL r t else o8 x y
theorem Xc (a b : List Int) (ha : a.length ≤ 1000000) : ∀ (n i : Nat), n + i = a.length → i ≤ b.length → Ev (fun k => dz.l0 k a b a (a.length : Int) (i : Int)) (cmpL (a.drop i) (b.drop i))
  | 0, i, hi, hb => by
    refine Ev.succ ?_
    simp only [dz.l0]
    refine Ev.neg (by omega) ?_
    rw [List.drop_eq_nil_of_le (by omega)]
    by_cases h : i = b.length
    · rw [List.drop_eq_nil_of_le (by omega)]
      exact Ev.neg (by omega) (Ev.const _)
    · rw [List.drop_eq_getElem_cons (by omega : i < b.length)]
      exact Ev.pos (by omega) (Ev.const _)
  | n + 1, i, hi, hb => by
    have hlt : i < a.length := by omega
    have ih := Xc a b ha n (i + 1) (by omega)
    refine Ev.succ ?_
    simp only [dz.l0, pQ a i hlt, Ck i (by omega)]
    refine Ev.pos (by omega) (Ev.pos (by omega) (Ev.pos (by omega) ?_))
    rw [List.drop_eq_getElem_cons hlt]
    by_cases h : i = b.length
    · rw [List.drop_eq_nil_of_le (show b.length ≤ i by omega)]
      exact Ev.pos (by omega) (Ev.const _)
    · have hlb : i < b.length := by omega
      rw [List.drop_eq_getElem_cons hlb]
      simp only [pQ b i hlb, aaX, Option.bind_some, cmpL]
      refine Ev.neg (by omega) (Ev.pos (by omega) ?_)
      by_cases hc : o8 a[i] b[i] = 0
      · rw [if_pos hc]
        exact Ev.pos hc (ih (by omega))
      · rw [if_neg hc]
        exact Ev.neg hc (Ev.const _)
theorem ae5 (a b : List Int) (ha : a.length ≤ 1000000) : Ev (fun k => dz.f k a b) (cmpL a b) := by
  simp only [dz.f]
  exact Xc a b ha a.length 0 (by omega) (by omega)
def O1 (m : Nat) : List Int → Nat → (Nat → Bool) → (Nat → Bool)
  | [], _, p => p
  | x :: r, i, p => O1 m r (i + 1) (if m.testBit i then fun b => p b || decide ((b : Int) = x) else p)
theorem Ld (m : Nat) (b : Nat) : ∀ (r : List Int) (i : Nat) (p : Nat → Bool), O1 m r i p b = true ↔ (p b = true ∨ ∃ j, ∃ h : j < r.length, m.testBit (i + j) = true ∧ (b : Int) = r[j])
  | [], i, p => by simp [O1]
  | x :: r, i, p => by
    rw [O1, Ld m b r (i + 1)]
    constructor
    · rintro (h | ⟨j, hj, h1, h2⟩)
      · by_cases ht : m.testBit i = true
        · rw [if_pos ht, Bool.or_eq_true] at h
          rcases h with h | h
          · exact .inl h
          · exact .inr ⟨0, by simp, by simpa using ht, by simpa using h⟩
        · rw [if_neg ht] at h
          exact .inl h
      · exact .inr ⟨j + 1, by simp; omega, by rw [← Nat.add_assoc, Nat.add_right_comm]; exact h1, by simpa using h2⟩
    · rintro (h | ⟨j, hj, h1, h2⟩)
      · left
        split
        · simp [h]
        · exact h
      · cases j with
        | zero =>
          left
          simp only [Nat.add_zero] at h1
          rw [if_pos h1, Bool.or_eq_true]
          right
          simpa using h2
        | succ j =>
          right
          exact ⟨j, by simpa using hj, by rw [Nat.add_right_comm, Nat.add_assoc]; exact h1, by simpa using h2⟩
def pX (N : Int) (s : List Int) : List Int := JE (fun a => decide ((a : Int) < N) && !inl s a)
def cnd (N : Int) (s : List Int) (m : Nat) : List Int := JE (O1 m (pX N s) 0 (inl s))
def Ej (N : Int) (L : List aD) (kind : Int) (c : List Int) (st : List Int × Int) : List Int × Int :=
  if jk N c kind then st
  else if st.2 < 0 then (c, ((qA N L c kind).length : Int))
  else if RJ [o8 ((qA N L c kind).length : Int) st.2, o8 (c.length : Int) (st.1.length : Int), cmpL c st.1] < 0 then (c, ((qA N L c kind).length : Int)) else st
def RL (N : Int) (L : List aD) (s : List Int) (kind : Int) : Nat → Nat → (List Int × Int) → (List Int × Int)
  | 0, _, st => st
  | n + 1, m, st => RL N L s kind n (m + 1) (Ej N L kind (cnd N s m) st)
theorem Le (m i : Nat) (hm : m < 9223372036854775808) (hi : i < 64) : (Go.bits .and .i64 (shr .i64 (m : Int) (i : Int)) 1 = 1) ↔ m.testBit i = true := by
  have e : shr .i64 (m : Int) (i : Int) = ((m / 2 ^ i : Nat) : Int) := by
    unfold shr
    rw [show min ((i : Int).toNat) IntKind.i64.bits = i by show min ((i : Int).toNat) 64 = i; omega]
    push_cast
    rfl
  rw [e, Go.Proofs.and_one _ (Nat.lt_of_le_of_lt (Nat.div_le_self _ _) hm), Nat.testBit_eq_decide_div_mod_eq, decide_eq_true_iff]
  omega
section
variable {N : Int} {L : List aD} {s : List Int} {kind : Int}
theorem DL (hN : N ≤ 64) (x : Int) : x ∈ pX N s ↔ 0 ≤ x ∧ x < N ∧ ¬ x ∈ s := by
  unfold pX
  rw [wY (fun a ha => by rw [decide_eq_false (by omega)]; rfl)]
  constructor
  · rintro ⟨h0, h1⟩
    rw [Bool.and_eq_true, xk s x h0, Bool.not_eq_true'] at h1
    have h2 := of_decide_eq_true h1.1
    exact ⟨h0, by omega, of_decide_eq_false h1.2⟩
  · rintro ⟨h0, h1, h2⟩
    refine ⟨h0, ?_⟩
    rw [Bool.and_eq_true, xk s x h0, Bool.not_eq_true']
    exact ⟨decide_eq_true (by omega), decide_eq_false h2⟩
theorem FY (hN : N ≤ 64) (hs : mD N s) (m : Nat) (x : Int) : x ∈ cnd N s m ↔ (x ∈ s ∨ ∃ j, ∃ h : j < (pX N s).length, m.testBit j = true ∧ x = (pX N s)[j]) := by
  unfold cnd
  have hr : ∀ (j : Nat) (h : j < (pX N s).length), 0 ≤ (pX N s)[j] ∧ (pX N s)[j] < N := fun j h => by
    have := (DL (s := s) hN _).1 (List.getElem_mem h)
    exact ⟨this.1, this.2.1⟩
  rw [wY (fun a ha => by
    rw [Bool.eq_false_iff]
    intro h
    rcases (Ld m a (pX N s) 0 (inl s)).1 h with h | ⟨j, hj, _, h⟩
    · have := hs.1 _ (of_decide_eq_true h); omega
    · have := hr j hj; omega)]
  rw [Ld]
  constructor
  · rintro ⟨h0, h | ⟨j, hj, h1, h2⟩⟩
    · rw [xk s x h0] at h
      exact .inl (of_decide_eq_true h)
    · exact .inr ⟨j, hj, by simpa using h1, by omega⟩
  · rintro (h | ⟨j, hj, h1, h2⟩)
    · have := hs.1 x h
      exact ⟨this.1, .inl (by rw [xk s x this.1]; exact decide_eq_true h)⟩
    · have := hr j hj
      exact ⟨by omega, .inr ⟨j, hj, by simpa using h1, by omega⟩⟩
theorem FZ (hN : N ≤ 64) (hs : mD N s) (m : Nat) : mD N (cnd N s m) := by
  refine ⟨fun x hx => ?_, Bp _⟩
  rcases (FY hN hs m x).1 hx with h | ⟨j, hj, _, rfl⟩
  · exact hs.1 x h
  · have := (DL (s := s) hN _).1 (List.getElem_mem hj)
    exact ⟨this.1, this.2.1⟩
theorem acj (hN : N ≤ 64) (hs : mD N s) : cnd N s 0 = s := by
  refine yR (Bp _) hs.2 fun x => ?_
  rw [FY hN hs]
  constructor
  · rintro (h | ⟨j, _, h, _⟩)
    · exact h
    · simp at h
  · exact .inl
theorem Lf (hG : jd N L) (hs : mD N s) {base : Int} (m : Nat) (hm : m < 1024) (AQ : (pX N s).length ≤ 10) (st : List Int × Int) {wo x41 : Int} {V : List Int × List aD × List (List aD) × Int} (avo : wo = (m : Int))
    (ih : Ev (fun k => bV.l0 k kind base (pX N s) (Ej N L kind (cnd N s m) st).1 (Ej N L kind (cnd N s m) st).2 x41 ((m + 1 : Nat) : Int) N L) V) :
    ∀ (n i : Nat), n + i = (pX N s).length → ∀ (zH : Int) (p : Nat → Bool), qI zH p → O1 m ((pX N s).drop i) i p = O1 m (pX N s) 0 (inl s) →
      Ev (fun k => bV.l1 k kind base (pX N s) st.1 st.2 wo zH x41 (m : Int) (pX N s) ((pX N s).length : Int) (i : Int) N L) V
  | 0, i, hi, zH, p, hp, he => by
    have hw := Ck m (by omega)
    refine Ev.succ ?_
    simp only [bV.l1, K3, Option.bind_some, hw]
    refine Ev.neg (by omega) ?_
    rw [List.drop_eq_nil_of_le (by omega), O1] at he
    have hc : JE p = cnd N s m := by unfold cnd; rw [he]
    have hL := DJ hp
    rw [hc] at hL
    refine Ev.bind hL ?_
    unfold Ej at ih
    by_cases hh : jk N (cnd N s m) kind
    · rw [if_pos hh] at ih
      exact Ev.pos (decide_eq_true hh) ih
    · rw [if_neg hh] at ih
      refine Ev.neg (by simpa using hh) (Ev.bind (Ia hG (FZ (by have := hG.n1; omega) hs m) kind) ?_)
      by_cases h0 : st.2 < 0
      · rw [if_pos h0] at ih
        exact Ev.pos h0 ih
      · rw [if_neg h0] at ih
        refine Ev.neg h0 ?_
        simp only [aaX, Option.bind_some]
        have hcl : (cnd N s m).length ≤ 1000000 := Nat.le_trans (DK _) (by omega)
        refine Ev.bind (ae5 _ _ hcl) (Ev.bind (akM _ (by simp)) ?_)
        by_cases ho : RJ [o8 ((qA N L (cnd N s m) kind).length : Int) st.2, o8 ((cnd N s m).length : Int) (st.1.length : Int), cmpL (cnd N s m) st.1] < 0
        · rw [if_pos ho] at ih
          exact Ev.pos ho ih
        · rw [if_neg ho] at ih
          exact Ev.neg ho ih
  | n + 1, i, hi, zH, p, hp, he => by
    have hlt : i < (pX N s).length := by omega
    have hN := hG.n1
    have hx := (DL (s := s) (N := N) (by omega) _).1 (List.getElem_mem hlt)
    rw [List.drop_eq_getElem_cons hlt, O1] at he
    refine Ev.succ ?_
    simp only [bV.l1, pQ (pX N s) i hlt, Ck i (by omega)]
    refine Ev.pos (by omega) (Ev.pos (by omega) (Ev.pos (by omega) ?_))
    subst avo
    by_cases hb : m.testBit i = true
    · rw [if_pos hb] at he
      obtain ⟨v, e1, hv⟩ := Fh hp ((pX N s)[i]).toNat (by omega)
      rw [show ((((pX N s)[i]).toNat : Nat) : Int) = (pX N s)[i] by omega] at e1
      refine Ev.pos ((Le m i (by omega) (by omega)).2 hb) ?_
      simp only [e1, Option.bind_some]
      refine Lf hG hs m hm AQ st rfl ih n (i + 1) (by omega) v _ (hv.congr fun b => ?_) he
      congr 1
      exact decide_eq_decide.2 (by omega)
    · rw [if_neg hb] at he
      refine Ev.neg (fun h => hb ((Le m i (by omega) (by omega)).1 h)) ?_
      exact Lf hG hs m hm AQ st rfl ih n (i + 1) (by omega) zH p hp he
end
section
variable {N : Int} {L : List aD} {s : List Int} {kind : Int}
theorem RN (hG : jd N L) (hs : mD N s) {base : Int} (hb : qI base (inl s)) (AQ : (pX N s).length ≤ 10) {x41 : Int} (hx : x41 = ((2 ^ (pX N s).length : Nat) : Int)) :
    ∀ (n m : Nat), n + m = 2 ^ (pX N s).length → ∀ (st : List Int × Int) (V : List Int × List aD × List (List aD)), Ev (fun k => bN.f k N L (RL N L s kind n m st).1 kind) V → Ev (fun k => bV.l0 k kind base (pX N s) st.1 st.2 x41 (m : Int) N L) (V.1, V.2.1, V.2.2, 0)
  | 0, m, hm, st, V, hV => by
    refine Ev.succ ?_
    simp only [bV.l0]
    exact Ev.neg (by omega) (Ev.bind hV (Ev.const _))
  | n + 1, m, hm, st, V, hV => by
    have hp : 2 ^ (pX N s).length ≤ 2 ^ 10 := Nat.pow_le_pow_right (by omega) AQ
    have ih := RN hG hs hb AQ hx n (m + 1) (by omega) (Ej N L kind (cnd N s m) st) V hV
    refine Ev.succ ?_
    simp only [bV.l0]
    refine Ev.pos (by omega) ?_
    exact Lf hG hs m (by omega) AQ st rfl ih (pX N s).length 0 (by omega) base (inl s) hb rfl
theorem akN (a b c d : Int) : (RJ [o8 a b, c, d] < 0 → a ≤ b) ∧ (¬ RJ [o8 a b, c, d] < 0 → b ≤ a) := by
  unfold o8
  by_cases h1 : a < b
  · simp [RJ, h1]
    omega
  · by_cases h2 : a > b
    · simp [RJ, h1, h2]
      omega
    · have : a = b := by omega
      subst this
      simp
def ae6 (N : Int) (L : List aD) (s : List Int) (kind : Int) (m : Nat) (st : List Int × Int) : Prop :=
  (st = ([], -1) ∧ ∀ j, j < m → jk N (cnd N s j) kind) ∨
  ∃ j, j < m ∧ st.1 = cnd N s j ∧ ¬ jk N (cnd N s j) kind ∧ st.2 = ((qA N L (cnd N s j) kind).length : Int) ∧ ∀ i, i < m → ¬ jk N (cnd N s i) kind → st.2 ≤ ((qA N L (cnd N s i) kind).length : Int)
theorem Zo (m : Nat) (st : List Int × Int) (h : ae6 N L s kind m st) : ae6 N L s kind (m + 1) (Ej N L kind (cnd N s m) st) := by
  unfold Ej
  by_cases hh : jk N (cnd N s m) kind
  · rw [if_pos hh]
    rcases h with ⟨h1, h2⟩ | ⟨j, h1, h2, h3, h4, h5⟩
    · exact .inl ⟨h1, fun j hj => by
        by_cases hjm : j = m
        · rw [hjm]; exact hh
        · exact h2 j (by omega)⟩
    · exact .inr ⟨j, by omega, h2, h3, h4, fun i hi hn => by
        by_cases him : i = m
        · rw [him] at hn; exact absurd hh hn
        · exact h5 i (by omega) hn⟩
  · rw [if_neg hh]
    rcases h with ⟨h1, h2⟩ | ⟨j, h1, h2, h3, h4, h5⟩
    · rw [if_pos (by rw [h1]; show (-1 : Int) < 0; omega)]
      exact .inr ⟨m, by omega, rfl, hh, rfl, fun i hi hn => by
        by_cases him : i = m
        · rw [him]; exact Int.le_refl _
        · exact absurd (h2 i (by omega)) hn⟩
    · rw [if_neg (by omega)]
      have ho := akN ((qA N L (cnd N s m) kind).length : Int) st.2 (o8 ((cnd N s m).length : Int) (st.1.length : Int)) (cmpL (cnd N s m) st.1)
      by_cases hc : RJ [o8 ((qA N L (cnd N s m) kind).length : Int) st.2, o8 ((cnd N s m).length : Int) (st.1.length : Int), cmpL (cnd N s m) st.1] < 0
      · rw [if_pos hc]
        have := ho.1 hc
        exact .inr ⟨m, by omega, rfl, hh, rfl, fun i hi hn => by
          by_cases him : i = m
          · rw [him]; exact Int.le_refl _
          · have := h5 i (by omega) hn
            show ((qA N L (cnd N s m) kind).length : Int) ≤ _
            omega⟩
      · rw [if_neg hc]
        have := ho.2 hc
        exact .inr ⟨j, by omega, h2, h3, h4, fun i hi hn => by
          by_cases him : i = m
          · rw [him]; exact this
          · exact h5 i (by omega) hn⟩
theorem Ig : ∀ (n m : Nat) (st : List Int × Int), ae6 N L s kind m st → ae6 N L s kind (n + m) (RL N L s kind n m st)
  | 0, m, st, h => by rw [Nat.zero_add]; exact h
  | n + 1, m, st, h => by
    have := Ig n (m + 1) (Ej N L kind (cnd N s m) st) (Zo m st h)
    rw [show n + 1 + m = n + (m + 1) by omega]
    exact this
def y8 (N : Int) (L : List aD) (s : List Int) (kind : Int) : List Int := (RL N L s kind (2 ^ (pX N s).length) 0 ([], -1)).1
theorem Dm (hN : N ≤ 64) (hs : mD N s) : ∃ j, j < 2 ^ (pX N s).length ∧ y8 N L s kind = cnd N s j ∧ ¬ jk N (cnd N s j) kind ∧ ∀ i, i < 2 ^ (pX N s).length → ¬ jk N (cnd N s i) kind → (qA N L (cnd N s j) kind).length ≤ (qA N L (cnd N s i) kind).length := by
  have h := Ig (N := N) (L := L) (s := s) (kind := kind) (2 ^ (pX N s).length) 0 ([], -1) (.inl ⟨rfl, fun j hj => absurd hj (by omega)⟩)
  rw [Nat.add_zero] at h
  rcases h with ⟨_, h2⟩ | ⟨j, h1, h2, h3, h4, h5⟩
  · exfalso
    have hp := Nat.two_pow_pos (pX N s).length
    have h0 := h2 0 hp
    rw [acj hN hs] at h0
    obtain ⟨hs0, hk, hN0⟩ := h0
    have hm : (0 : Int) ∈ pX N s := (DL hN 0).2 ⟨by omega, hN0, by rw [hs0]; simp⟩
    have hl := List.length_pos_of_mem hm
    have h1 := h2 1 (by
      have : 2 ^ 1 ≤ 2 ^ (pX N s).length := Nat.pow_le_pow_right (by omega) hl
      omega)
    have : (pX N s)[0] ∈ cnd N s 1 := (FY hN hs 1 _).2 (.inr ⟨0, hl, by decide, rfl⟩)
    rw [h1.1] at this
    cases this
  · exact ⟨j, h1, h2, h3, fun i hi hn => by have := h5 i hi hn; omega⟩
theorem RO (hN : 0 ≤ N) (hk : kind = 1 ∨ kind = 2) {c : List Int} (h : ¬ jk N c kind) : 0 < c.length ∨ qA N L c kind = [] := Ex hN hk h
theorem ack (hG : jd N L) (hs : mD N s) (hk : kind = 1 ∨ kind = 2) (AQ : (pX N s).length ≤ 10) : Ev (fun k => bV.f k N L s kind) (y8 N L s kind, EM N L (y8 N L s kind) kind, qA N L (y8 N L s kind) kind, 0) := by
  have h0 := hG.n0
  have h1 := hG.n1
  obtain ⟨u, e1, hu⟩ := hs.of h0 h1
  obtain ⟨al, uI, out, e2, D6⟩ := OE hG
  obtain ⟨j, _, hj1, hj2, _⟩ := Dm (L := L) (kind := kind) (by omega : N ≤ 64) hs
  have hbs : mD N (y8 N L s kind) := by rw [hj1]; exact FZ (by omega) hs j
  have hst := Nt hG hbs (kind := kind) (RO h0 hk (by rw [hj1]; exact hj2))
  have hL : Ev (fun k => bQ.f k (Go.bits .andNot .u64 al u)) (pX N s) := DJ (D6.al.andNot hu)
  have hp : (pX N s).length ≤ 10 := AQ
  have hsh : shl .i64 1 ((pX N s).length : Int) = ((2 ^ (pX N s).length : Nat) : Int) := by
    generalize (pX N s).length = r at hp
    have : r = 0 ∨ r = 1 ∨ r = 2 ∨ r = 3 ∨ r = 4 ∨ r = 5 ∨ r = 6 ∨ r = 7 ∨ r = 8 ∨ r = 9 ∨ r = 10 := by omega
    rcases this with rfl | rfl | rfl | rfl | rfl | rfl | rfl | rfl | rfl | rfl | rfl <;> decide
  have hl0 := RN (L := L) (kind := kind) hG hs hu AQ hsh (2 ^ (pX N s).length) 0 (by omega) ([], -1) _ hst
  simp only [bV.f]
  exact Ev.bind (FH hG hs hk) (Ev.pos rfl (Ev.bind e1 (Ev.bind e2 (Ev.bind hL (Ev.neg (by omega) hl0)))))
end
end Go.Proofs.YtjmdlmogdbhdhaaDoor.P
namespace Go.Proofs.YtjmdlmogdbhdhaaDoor.P
open Go.RowKit Go.Proofs.YtjmdlmogdbhdhaaDoorW.PrintWords Go.Proofs.YtjmdlmogdbhdhaaDoorW.PrintLast Go.Proofs.YtjmdlmogdbhdhaaDoorW.PrintMore
attribute [local go_sem] iI iJ jP jQ gH gI iK iL
set_option linter.unusedVariables false
set_option linter.unusedSimpArgs false
set_option maxHeartbeats 8000000
set_option maxRecDepth 100000
mutual
def aC.j0 : Nat → Bool → Int → List (aD) → Option (Int)
 | 0, _, _, _ => none
 | k + 1, wK, sQ, kG => if wK = true then (some 1) else (aC.l0 k 0 sQ kG)
def aC.l0 : Nat → Int → Int → List (aD) → Option (Int)
 | 0, _, _, _ => none
 | k + 1, x3, sQ, kG => if x3 < (kG.length : Int) then (if 0 ≤ x3 then (if ((aa kG x3).f0) < 0 then (aC.j2 k x3 true sQ kG ((aa kG x3).f0) ((aa kG x3).f1)) else (if ((aa kG x3).f0) ≥ sQ then (aC.j2 k x3 true sQ kG ((aa kG x3).f0) ((aa kG x3).f1)) else (if ((aa kG x3).f1) < 0 then (aC.j2 k x3 true sQ kG ((aa kG x3).f0) ((aa kG x3).f1)) else (aC.j2 k x3 (decide (((aa kG x3).f1) ≥ sQ)) sQ kG ((aa kG x3).f0) ((aa kG x3).f1))))) else (none)) else (some 0)
def aC.j2 : Nat → Int → Bool → Int → List (aD) → Int → Int → Option (Int)
 | 0, _, _, _, _, _, _ => none
 | k + 1, x3, x46, sQ, kG, Xd, ae7 => if x46 = true then (some 1) else (if x3 > 0 then (if 0 ≤ (wrap64 (x3 - 1)) then (if (wrap64 (x3 - 1)) < (kG.length : Int) then (if ((aa kG (wrap64 (x3 - 1))).f0) > Xd then (some 8) else (if ((aa kG (wrap64 (x3 - 1))).f0) = Xd then (if ((aa kG (wrap64 (x3 - 1))).f1) ≥ ae7 then (some 8) else (aC.l0 k (wrap64 (x3 + 1)) sQ kG)) else (aC.l0 k (wrap64 (x3 + 1)) sQ kG))) else (none)) else (none)) else (aC.l0 k (wrap64 (x3 + 1)) sQ kG))
end
def aC.f (k : Nat) (au : Int) (ah : List (aD)) : Option (Int) := if au < 0 then (aC.j0 k true au ah) else (aC.j0 k (decide (au > 40)) au ah)
theorem aC.calls (k : Nat) (au : Int) (aZ : Option Addr) (aW : Nat) (ah : List (aD)) (r : Int) (w : World) (eY : Kd.C gm w aZ ah.length ah) (eZ : ah.length ≤ aW) (h : aC.f k au ah = some r) :
 Calls Tryd.prog 44 #[.agg #[.int .i64 au, .slice aZ ah.length aW]] w fun e w' => e = .returned (.int .i64 r) ∧ Below w.heap.size w w' := by
 have uk := Tryd.underlying24; have wV := Tryd.underlying42; have cz := zA eY; have dX := zA eZ; clear eY eZ; have HB := zA (Below.refl w.heap.size w); have H : (if au < 0 then (aC.j0 k true au ah) else (aC.j0 k (decide (au > 40)) au ah)) = some r := h; clear h; have HC2 := zA H; clear H; go_enter Tryd.func44, Tryd.ntmps44; go_upto_region 1 with (first | ((with_reducible refine aH (N := 1) rfl ?_); refine zX (N := 1) (cs := #[.int .i64 au, .slice aZ ah.length aW]) (t := 24) ?_; intro RP hg w3 aG hb; have l9 := zA (aG); have ahj := zA (zW hg HB); have ahk := zA (zW hg HB); replace HB := zA (af (zB HB) hb); clear hb aG hg))
 repeat (go_quiet (first | ((with_reducible refine aH (N := 1) rfl ?_); refine zX (N := 1) (cs := #[.int .i64 au, .slice aZ ah.length aW]) (t := 24) ?_; intro RP hg w3 aG hb; have l9 := zA (aG); have ahj := zA (zW hg HB); have ahk := zA (zW hg HB); replace HB := zA (af (zB HB) hb); clear hb aG hg)); go_upto_region 1 with (first | ((with_reducible refine aH (N := 1) rfl ?_); refine zX (N := 1) (cs := #[.int .i64 au, .slice aZ ah.length aW]) (t := 24) ?_; intro RP hg w3 aG hb; have l9 := zA (aG); have ahj := zA (zW hg HB); have ahk := zA (zW hg HB); replace HB := zA (af (zB HB) hb); clear hb aG hg)))
 (try simp only [Act.put, List.setIfInBounds_toArray, List.set_cons_zero, List.set_cons_succ]); go_cut [12] (fun v12 wc => ∃ (kq : Nat) (rQ : Bool), v12 = .bool rQ ∧ ag (aC.j0 kq rQ au ah = some r) ∧ ag (kq ≤ k) ∧ ag (wc.heap[RP]? = some (.cells #[.int .i64 au, (.slice aZ ah.length aW)] 24 (0, 0))) ∧ ag (Below w.heap.size w wc))
 case first =>
  have H := HC2.out; clear HC2; by_cases c4 : au < 0
  · rw [if_pos c4] at H; have qU := decide_eq_true c4; clear c4; (first | rw [qU] | (simp only [nE, qJ]; rw [qU]) | skip); have H' := zA H; clear H; obtain ⟨_, _, _, _⟩ := iG l9; go_wp2; repeat (go_quiet (fail); try go_wp2)
    go_meet
    case rel => exact ⟨_, (true), zv, H', ⟨by first | omega | exact Nat.le_refl _⟩, ⟨zK l9⟩, ⟨zB HB⟩⟩
  · rw [if_neg c4] at H; have qU := decide_eq_false c4; clear c4; (first | rw [qU] | (simp only [nE, qJ]; rw [qU]) | skip); have H' := zA H; clear H; obtain ⟨_, _, _, _⟩ := iG l9; go_wp2; repeat (go_quiet (fail); try go_wp2)
    go_meet
    case rel => exact ⟨_, (decide (au > 40)), zv, H', ⟨by first | omega | exact Nat.le_refl _⟩, ⟨zK l9⟩, ⟨zB HB⟩⟩
 case rest =>
  clear HC2
  obtain ⟨kq, rQ, rfl, HA, Qp, l9, HB⟩ := hcut; cases kq with
  | zero => exact absurd HA.out (by simp [aC.j0])
  | succ kj1 =>
   have H := HA.out; clear HA; simp only [aC.j0] at H; by_cases c7 : rQ = true
   · subst c7; rw [if_pos rfl] at H; obtain rfl := Option.some.inj H; go_wp2; repeat (go_quiet (fail); try go_wp2)
     go_ret; exact ⟨ze, zB HB⟩
   · replace c7 := Bool.eq_false_iff.mpr c7; subst c7; rw [if_neg (show ¬ (false = true) by decide)] at H; have H' := zA H; clear H; go_wp2; repeat (go_quiet (fail); try go_wp2)
     go_loopg [3] kj1 (fun kq v3 w' => ∃ (qo : Int), v3 = .int .i64 qo ∧ ag (aC.l0 kq qo au ah = some r) ∧ ag (kq ≤ kj1) ∧ ag (w'.heap[RP]? = some (.cells #[.int .i64 au, (.slice aZ ah.length aW)] 24 (0, 0))) ∧ ag (Below w.heap.size w w'))
     case atStart => exact ⟨(0), zv, H', ⟨Nat.le_refl _⟩, ⟨zK l9⟩, ⟨zB HB⟩⟩
     case round =>
      clear H'
      obtain ⟨qo, rfl, HA, mo, l9, HB⟩ := hrel; cases gk with
      | zero => exact absurd HA.out (by simp [aC.l0])
      | succ k2 =>
       have H := HA.out; clear HA; simp only [aC.l0] at H; by_cases c8 : qo < (ah.length : Int)
       · rw [if_pos c8] at H; have Oe := decide_eq_true c8; clear c8; by_cases c9 : 0 ≤ qo
         · rw [if_pos c9] at H; have EX := decide_eq_true c9; clear c9; have akO := zA H; clear H; obtain ⟨_, _, _, _⟩ := iG l9; have akP : 0 ≤ (qo : Int) := zo; have akQ : qo < (ah.length : Int) := zo; obtain ⟨El, avp, Xe, Xf⟩ := eG cz.out qo akP akQ; cases avp; replace Xe := (zx HB Xe :); replace Xf := (zx HB Xf :); replace akP := eq_true akP; replace akQ := eq_true akQ; go_upto_region 7 with (first | ((with_reducible refine aH (N := 4) rfl ?_); refine zX (N := 4) (cs := #[.int .i64 0, .int .i64 0]) (t := 42) ?_; intro acm hg Tz aG hb; have uQ := zA (aG); have ahl := zA (zW hg HB); have ahm := zA (zW hg HB); have jJ := zA (lZ hg l9); have og := zA (l5 hg l9); replace l9 := zA (dn l9 hb); replace HB := zA (af (zB HB) hb); clear hb aG hg; have V5 := og.out; have V6 := jJ.out; obtain ⟨_, _, _, _⟩ := iG uQ))
           repeat (go_quiet (first | ((with_reducible refine aH (N := 4) rfl ?_); refine zX (N := 4) (cs := #[.int .i64 0, .int .i64 0]) (t := 42) ?_; intro acm hg Tz aG hb; have uQ := zA (aG); have ahl := zA (zW hg HB); have ahm := zA (zW hg HB); have jJ := zA (lZ hg l9); have og := zA (l5 hg l9); replace l9 := zA (dn l9 hb); replace HB := zA (af (zB HB) hb); clear hb aG hg; have V5 := og.out; have V6 := jJ.out; obtain ⟨_, _, _, _⟩ := iG uQ)); go_upto_region 7 with (first | ((with_reducible refine aH (N := 4) rfl ?_); refine zX (N := 4) (cs := #[.int .i64 0, .int .i64 0]) (t := 42) ?_; intro acm hg Tz aG hb; have uQ := zA (aG); have ahl := zA (zW hg HB); have ahm := zA (zW hg HB); have jJ := zA (lZ hg l9); have og := zA (l5 hg l9); replace l9 := zA (dn l9 hb); replace HB := zA (af (zB HB) hb); clear hb aG hg; have V5 := og.out; have V6 := jJ.out; obtain ⟨_, _, _, _⟩ := iG uQ)))
           (try simp only [Act.put, List.setIfInBounds_toArray, List.set_cons_zero, List.set_cons_succ]); go_cut [46] (fun v46 wc => ∃ (kq : Nat) (Xg : Bool), v46 = .bool Xg ∧ ag (aC.j2 kq qo Xg au ah ((aa ah qo).f0) ((aa ah qo).f1) = some r) ∧ ag (kq ≤ k2) ∧ ag (wc.heap[RP]? = some (.cells #[.int .i64 au, (.slice (some El) ah.length aW)] 24 (0, 0))) ∧ ag (wc.heap[acm]? = some (.cells #[.int .i64 ((aa ah qo).f0), .int .i64 ((aa ah qo).f1)] 42 (0, 0))) ∧ ag (Below w.heap.size w wc))
           case first =>
            have H := akO.out; clear akO; by_cases c15 : ((aa ah qo).f0) < 0
            · rw [if_pos c15] at H; have NA := decide_eq_true c15; clear c15; (first | rw [NA] | (simp only [nE, qJ]; rw [NA]) | skip); have H' := zA H; clear H; have aox := og.out; have aoy := jJ.out; obtain ⟨_, _, _, _⟩ := iG uQ; go_wp2; repeat (go_quiet (fail); try go_wp2)
              go_meet
              case rel => exact ⟨_, (true), zv, H', ⟨by have := Qp.out; have := mo.out; first | omega | exact Nat.le_refl _⟩, ⟨by refine iA jJ.out ?_; refine iA jJ.out ?_; refine zk ?_; exact l9.out⟩, ⟨by refine zk ?_; refine aV (cs := #[.int .i64 ((aa ah qo).f0), .int .i64 0]) ?_ 1 _ rfl; refine zk ?_; refine aV (cs := #[.int .i64 0, .int .i64 0]) ?_ 0 _ rfl; refine zk ?_; exact uQ.out⟩, ⟨zB HB⟩⟩
            · rw [if_neg c15] at H; have NA := decide_eq_false c15; clear c15; (first | rw [NA] | (simp only [nE, qJ]; rw [NA]) | skip); by_cases c18 : ((aa ah qo).f0) ≥ au
              · rw [if_pos c18] at H; have abr := decide_eq_true c18; clear c18; have H' := zA H; clear H; have apo := og.out; have apq := jJ.out; obtain ⟨_, _, _, _⟩ := iG uQ; obtain ⟨_, _, _, _⟩ := iG l9; go_wp2; repeat (go_quiet (fail); try go_wp2)
                go_meet
                case rel => exact ⟨_, (true), zv, H', ⟨by have := Qp.out; have := mo.out; first | omega | exact Nat.le_refl _⟩, ⟨by refine iA jJ.out ?_; refine iA jJ.out ?_; refine zk ?_; exact l9.out⟩, ⟨by refine zk ?_; refine aV (cs := #[.int .i64 ((aa ah qo).f0), .int .i64 0]) ?_ 1 _ rfl; refine zk ?_; refine aV (cs := #[.int .i64 0, .int .i64 0]) ?_ 0 _ rfl; refine zk ?_; exact uQ.out⟩, ⟨zB HB⟩⟩
              · rw [if_neg c18] at H; have abr := decide_eq_false c18; clear c18; by_cases DZ : ((aa ah qo).f1) < 0
                · rw [if_pos DZ] at H; have Lh := decide_eq_true DZ; clear DZ; have H' := zA H; clear H; have ab1 := og.out; have ab2 := jJ.out; obtain ⟨_, _, _, _⟩ := iG uQ; obtain ⟨_, _, _, _⟩ := iG l9; go_wp2; repeat (go_quiet (fail); try go_wp2)
                  go_meet
                  case rel => exact ⟨_, (true), zv, H', ⟨by have := Qp.out; have := mo.out; first | omega | exact Nat.le_refl _⟩, ⟨by refine iA jJ.out ?_; refine iA jJ.out ?_; refine zk ?_; exact l9.out⟩, ⟨by refine zk ?_; refine aV (cs := #[.int .i64 ((aa ah qo).f0), .int .i64 0]) ?_ 1 _ rfl; refine zk ?_; refine aV (cs := #[.int .i64 0, .int .i64 0]) ?_ 0 _ rfl; refine zk ?_; exact uQ.out⟩, ⟨zB HB⟩⟩
                · rw [if_neg DZ] at H; have Lh := decide_eq_false DZ; clear DZ; have H' := zA H; clear H; have Wl := og.out; have Wm := jJ.out; obtain ⟨_, _, _, _⟩ := iG uQ; obtain ⟨_, _, _, _⟩ := iG l9; go_wp2; repeat (go_quiet (fail); try go_wp2)
                  go_meet
                  case rel => exact ⟨_, (decide (((aa ah qo).f1) ≥ au)), zv, H', ⟨by have := Qp.out; have := mo.out; first | omega | exact Nat.le_refl _⟩, ⟨by refine iA jJ.out ?_; refine iA jJ.out ?_; refine zk ?_; exact l9.out⟩, ⟨by refine zk ?_; refine aV (cs := #[.int .i64 ((aa ah qo).f0), .int .i64 0]) ?_ 1 _ rfl; refine zk ?_; refine aV (cs := #[.int .i64 0, .int .i64 0]) ?_ 0 _ rfl; refine zk ?_; exact uQ.out⟩, ⟨zB HB⟩⟩
           case rest =>
            clear akO
            obtain ⟨kq, Xg, rfl, HA, HJ9, l9, uQ, HB⟩ := hcut; cases kq with
            | zero => exact absurd HA.out (by simp [aC.j2])
            | succ kj9 =>
             have H := HA.out; clear HA; simp only [aC.j2] at H; by_cases RQ : Xg = true
             · subst RQ; rw [if_pos rfl] at H; obtain rfl := Option.some.inj H; go_wp2; repeat (go_quiet (fail); try go_wp2)
               go_ret; exact ⟨ze, zB HB⟩
             · replace RQ := Bool.eq_false_iff.mpr RQ; subst RQ; rw [if_neg (show ¬ (false = true) by decide)] at H; by_cases Cf : qo > 0
               · rw [if_pos Cf] at H; have IY := decide_eq_true Cf; clear Cf; obtain ⟨nC, Dn⟩ : ∃ j_ : Int, (wrap64 (qo - 1)) = j_ := ⟨_, rfl⟩; replace H : (if 0 ≤ (nC) then (if (nC) < (ah.length : Int) then (if ((aa ah (nC)).f0) > ((aa ah qo).f0) then (some 8) else (if ((aa ah (nC)).f0) = ((aa ah qo).f0) then (if ((aa ah (nC)).f1) ≥ ((aa ah qo).f1) then (some 8) else (aC.l0 kj9 (wrap64 (qo + 1)) au ah)) else (aC.l0 kj9 (wrap64 (qo + 1)) au ah))) else (none)) else (none)) = some r := by first | (rw [Dn] at H; exact H) | (simp only [Dn] at H ⊢; exact H)
                 have avq : (IntKind.i64.wrap (qo - 1)) = nC := (nE _).trans Dn; by_cases c32 : 0 ≤ (nC)
                 · rw [if_pos c32] at H; have Q5 := decide_eq_true c32; clear c32; by_cases Cj : (nC) < (ah.length : Int)
                   · rw [if_pos Cj] at H; have I9 := decide_eq_true Cj; clear Cj; by_cases c34 : ((aa ah (nC)).f0) > ((aa ah qo).f0)
                     · rw [if_pos c34] at H; have KD := decide_eq_true c34; clear c34; obtain rfl := Option.some.inj H; have abv := jJ.out; have abw := og.out; obtain ⟨_, _, _, _⟩ := iG l9; have Ey : 0 ≤ ((nC) : Int) := zo; have Ez : (nC) < (ah.length : Int) := zo; obtain ⟨Li, e343, uB, uC⟩ := eG cz.out (nC) Ey Ez; obtain rfl : El = Li := (by injection e343); replace uB := (zx HB uB :); replace uC := (zx HB uC :); replace Ey := eq_true Ey; replace Ez := eq_true Ez; obtain ⟨_, _, _, _⟩ := iG uQ; go_wp2; repeat (go_quiet (fail); try go_wp2)
                       go_ret; exact ⟨by first | rfl | (simp [jf, jg] <;> rfl) | (simp only [← Dn]; first | rfl | (simp [jf, jg] <;> rfl)) | (simp [*, jf, jg] <;> rfl), zB HB⟩
                     · rw [if_neg c34] at H; have KD := decide_eq_false c34; clear c34; by_cases Oy : ((aa ah (nC)).f0) = ((aa ah qo).f0)
                       · rw [if_pos Oy] at H; have Wn : (((aa ah (nC)).f0) == ((aa ah qo).f0)) = true := beq_iff_eq.mpr Oy; have apS : (((aa ah (nC)).f0) != ((aa ah qo).f0)) = false := bne_eq_false_iff_eq.mpr Oy; clear Oy; by_cases Ty : ((aa ah (nC)).f1) ≥ ((aa ah qo).f1)
                         · rw [if_pos Ty] at H; have agr := decide_eq_true Ty; clear Ty; obtain rfl := Option.some.inj H; have abz := jJ.out; have abA := og.out; obtain ⟨_, _, _, _⟩ := iG l9; have Ey : 0 ≤ ((nC) : Int) := zo; have Ez : (nC) < (ah.length : Int) := zo; obtain ⟨Li, e343, uB, uC⟩ := eG cz.out (nC) Ey Ez; obtain rfl : El = Li := (by injection e343); replace uB := (zx HB uB :); replace uC := (zx HB uC :); replace Ey := eq_true Ey; replace Ez := eq_true Ez; obtain ⟨_, _, _, _⟩ := iG uQ; have Lj : 0 ≤ ((nC) : Int) := zo; have Lm : (nC) < (ah.length : Int) := zo; obtain ⟨RS, e344, y9, za⟩ := eG cz.out (nC) Lj Lm; obtain rfl : El = RS := (by injection e344); replace y9 := (zx HB y9 :); replace za := (zx HB za :); replace Lj := eq_true Lj; replace Lm := eq_true Lm; have UR : 0 ≤ ((nC) : Int) := zo; have UT : (nC) < (ah.length : Int) := zo; obtain ⟨acn, e345, F3, F4⟩ := eG cz.out (nC) UR UT; obtain rfl : El = acn := (by injection e345); replace F3 := (zx HB F3 :); replace F4 := (zx HB F4 :); replace UR := eq_true UR; replace UT := eq_true UT; go_wp2; repeat (go_quiet (fail); try go_wp2)
                           go_ret; exact ⟨by first | rfl | (simp [jf, jg] <;> rfl) | (simp only [← Dn]; first | rfl | (simp [jf, jg] <;> rfl)) | (simp [*, jf, jg] <;> rfl), zB HB⟩
                         · rw [if_neg Ty] at H; have agr := decide_eq_false Ty; clear Ty; have H' := zA H; clear H; have Wq := jJ.out; have Ws := og.out; obtain ⟨_, _, _, _⟩ := iG l9; have Ey : 0 ≤ ((nC) : Int) := zo; have Ez : (nC) < (ah.length : Int) := zo; obtain ⟨Li, e343, uB, uC⟩ := eG cz.out (nC) Ey Ez; obtain rfl : El = Li := (by injection e343); replace uB := (zx HB uB :); replace uC := (zx HB uC :); replace Ey := eq_true Ey; replace Ez := eq_true Ez; obtain ⟨_, _, _, _⟩ := iG uQ; have Lj : 0 ≤ ((nC) : Int) := zo; have Lm : (nC) < (ah.length : Int) := zo; obtain ⟨RS, e344, y9, za⟩ := eG cz.out (nC) Lj Lm; obtain rfl : El = RS := (by injection e344); replace y9 := (zx HB y9 :); replace za := (zx HB za :); replace Lj := eq_true Lj; replace Lm := eq_true Lm; have UR : 0 ≤ ((nC) : Int) := zo; have UT : (nC) < (ah.length : Int) := zo; obtain ⟨acn, e345, F3, F4⟩ := eG cz.out (nC) UR UT; obtain rfl : El = acn := (by injection e345); replace F3 := (zx HB F3 :); replace F4 := (zx HB F4 :); replace UR := eq_true UR; replace UT := eq_true UT; go_wp2; repeat (go_quiet (fail); try go_wp2)
                           go_roundg kj9
                           case measure => have := Qp.out; have := mo.out; have := HJ9.out; omega
                           case rel => exact ⟨(wrap64 (qo + 1)), zv, H', ⟨by have := Qp.out; have := mo.out; have := HJ9.out; omega⟩, ⟨zK l9⟩, ⟨zB HB⟩⟩
                       · rw [if_neg Oy] at H; have Wn : (((aa ah (nC)).f0) == ((aa ah qo).f0)) = false := beq_eq_false_iff_ne.mpr Oy; have apS : (((aa ah (nC)).f0) != ((aa ah qo).f0)) = true := bne_iff_ne.mpr Oy; have H' := zA H; clear H; have azP := jJ.out; have azQ := og.out; obtain ⟨_, _, _, _⟩ := iG l9; have Ey : 0 ≤ ((nC) : Int) := zo; have Ez : (nC) < (ah.length : Int) := zo; obtain ⟨Li, e343, uB, uC⟩ := eG cz.out (nC) Ey Ez; obtain rfl : El = Li := (by injection e343); replace uB := (zx HB uB :); replace uC := (zx HB uC :); replace Ey := eq_true Ey; replace Ez := eq_true Ez; obtain ⟨_, _, _, _⟩ := iG uQ; have Lj : 0 ≤ ((nC) : Int) := zo; have Lm : (nC) < (ah.length : Int) := zo; obtain ⟨RS, e344, y9, za⟩ := eG cz.out (nC) Lj Lm; obtain rfl : El = RS := (by injection e344); replace y9 := (zx HB y9 :); replace za := (zx HB za :); replace Lj := eq_true Lj; replace Lm := eq_true Lm; go_wp2; repeat (go_quiet (fail); try go_wp2)
                         go_roundg kj9
                         case measure => have := Qp.out; have := mo.out; have := HJ9.out; omega
                         case rel => exact ⟨(wrap64 (qo + 1)), zv, H', ⟨by have := Qp.out; have := mo.out; have := HJ9.out; omega⟩, ⟨zK l9⟩, ⟨zB HB⟩⟩
                   · rw [if_neg Cj] at H; exact absurd H (by simp)
                 · rw [if_neg c32] at H; exact absurd H (by simp)
               · rw [if_neg Cf] at H; have IY := decide_eq_false Cf; clear Cf; have H' := zA H; clear H; go_wp2; repeat (go_quiet (fail); try go_wp2)
                 go_roundg kj9
                 case measure => have := Qp.out; have := mo.out; have := HJ9.out; omega
                 case rel => exact ⟨(wrap64 (qo + 1)), zv, H', ⟨by have := Qp.out; have := mo.out; have := HJ9.out; omega⟩, ⟨zK l9⟩, ⟨zB HB⟩⟩
         · rw [if_neg c9] at H; exact absurd H (by simp)
       · rw [if_neg c8] at H; have Oe := decide_eq_false c8; clear c8; obtain rfl := Option.some.inj H; obtain ⟨_, _, _, _⟩ := iG l9; go_wp2; repeat (go_quiet (fail); try go_wp2)
         go_ret; exact ⟨ze, zB HB⟩
def dU.l0 : Nat → List Int → Int → Int → List (aD) → Option (Bool)
 | 0, _, _, _, _ => none
 | k + 1, x1, x5, O7, Xh => if x5 < (x1.length : Int) then (if 0 ≤ x5 then (if (rd x1 x5) < 0 then (some false) else (if (rd x1 x5) ≥ O7 then (some false) else (if x5 > 0 then (if 0 ≤ (wrap64 (x5 - 1)) then (if (wrap64 (x5 - 1)) < (x1.length : Int) then (if (rd x1 x5) ≤ (rd x1 (wrap64 (x5 - 1))) then (some false) else (dU.l0 k x1 (wrap64 (x5 + 1)) O7 Xh)) else (none)) else (none)) else (dU.l0 k x1 (wrap64 (x5 + 1)) O7 Xh)))) else (none)) else (some true)
def dU.f (k : Nat) (au : Int) (ah : List (aD)) (l1 : List Int) : Option (Bool) := dU.l0 k l1 0 au ah
theorem dU.calls (k : Nat) (au : Int) (aZ : Option Addr) (aW : Nat) (ah : List (aD)) (A1 : Option Addr) (c1 : Nat) (l1 : List Int) (r : Bool) (w : World) (eY : Kd.C gm w aZ ah.length ah) (eZ : ah.length ≤ aW) (hr1 : Kd.C (Kd.int .i64) w A1 l1.length l1) (hc1 : l1.length ≤ c1) (h : dU.f k au ah l1 = some r) :
 Calls Tryd.prog 60 #[.agg #[.int .i64 au, .slice aZ ah.length aW], .slice A1 l1.length c1] w fun e w' => e = .returned (.bool r) ∧ Below w.heap.size w w' := by
 have uk := Tryd.underlying24; have cz := zA eY; have dX := zA eZ; clear eY eZ; have HR1 := zA hr1; have rX := zA hc1; clear hr1 hc1; have HB := zA (Below.refl w.heap.size w); have H : (dU.l0 k l1 0 au ah) = some r := h; clear h; have H' := zA H; clear H; go_enter Tryd.func60, Tryd.ntmps60; go_wp2_with (first | ((with_reducible refine aH (N := 2) rfl ?_); refine zX (N := 2) (cs := #[.int .i64 au, .slice aZ ah.length aW]) (t := 24) ?_; intro aco hg w3 aG hb; have Em := zA (aG); have ahn := zA (zW hg HB); have aho := zA (zW hg HB); replace HB := zA (af (zB HB) hb); clear hb aG hg)); repeat (go_quiet (first | ((with_reducible refine aH (N := 2) rfl ?_); refine zX (N := 2) (cs := #[.int .i64 au, .slice aZ ah.length aW]) (t := 24) ?_; intro aco hg w3 aG hb; have Em := zA (aG); have ahn := zA (zW hg HB); have aho := zA (zW hg HB); replace HB := zA (af (zB HB) hb); clear hb aG hg)); try go_wp2_with (first | ((with_reducible refine aH (N := 2) rfl ?_); refine zX (N := 2) (cs := #[.int .i64 au, .slice aZ ah.length aW]) (t := 24) ?_; intro aco hg w3 aG hb; have Em := zA (aG); have ahn := zA (zW hg HB); have aho := zA (zW hg HB); replace HB := zA (af (zB HB) hb); clear hb aG hg)))
 go_loopg [5] k (fun kq v5 w' => ∃ (bL : Int), v5 = .int .i64 bL ∧ ag (dU.l0 kq l1 bL au ah = some r) ∧ ag (kq ≤ k) ∧ ag (w'.heap[aco]? = some (.cells #[.int .i64 au, (.slice aZ ah.length aW)] 24 (0, 0))) ∧ ag (Below w.heap.size w w'))
 case atStart => exact ⟨(0), zv, H', ⟨Nat.le_refl _⟩, ⟨zK Em⟩, ⟨zB HB⟩⟩
 case round =>
  clear H'
  obtain ⟨bL, rfl, HA, iU, Em, HB⟩ := hrel; cases gk with
  | zero => exact absurd HA.out (by simp [dU.l0])
  | succ k1 =>
   have H := HA.out; clear HA; simp only [dU.l0] at H; by_cases c4 : bL < (l1.length : Int)
   · rw [if_pos c4] at H; have qU := decide_eq_true c4; clear c4; by_cases c5 : 0 ≤ bL
     · rw [if_pos c5] at H; have pM := decide_eq_true c5; clear c5; by_cases c6 : (rd l1 bL) < 0
       · rw [if_pos c6] at H; have yH := decide_eq_true c6; clear c6; obtain rfl := Option.some.inj H; have BD : 0 ≤ (bL : Int) := zo; have BF : bL < (l1.length : Int) := zo; obtain ⟨Cn, O8, qO⟩ := Kd.eP HR1.out bL BD BF; cases O8; replace qO := (zx HB qO :); replace BD := eq_true BD; replace BF := eq_true BF; go_wp2; repeat (go_quiet (fail); try go_wp2)
         go_ret; exact ⟨ze, zB HB⟩
       · rw [if_neg c6] at H; have yH := decide_eq_false c6; clear c6; by_cases c7 : (rd l1 bL) ≥ au
         · rw [if_pos c7] at H; have Am := decide_eq_true c7; clear c7; obtain rfl := Option.some.inj H; have BD : 0 ≤ (bL : Int) := zo; have BF : bL < (l1.length : Int) := zo; obtain ⟨Cn, O8, qO⟩ := Kd.eP HR1.out bL BD BF; cases O8; replace qO := (zx HB qO :); replace BD := eq_true BD; replace BF := eq_true BF; have EA : 0 ≤ (bL : Int) := zo; have EB : bL < (l1.length : Int) := zo; obtain ⟨Lp, UU, uD⟩ := Kd.eP HR1.out bL EA EB; obtain rfl : Cn = Lp := (by injection UU); replace uD := (zx HB uD :); replace EA := eq_true EA; replace EB := eq_true EB; obtain ⟨_, _, _, _⟩ := iG Em; go_wp2; repeat (go_quiet (fail); try go_wp2)
           go_ret; exact ⟨ze, zB HB⟩
         · rw [if_neg c7] at H; have Am := decide_eq_false c7; clear c7; by_cases c9 : bL > 0
           · rw [if_pos c9] at H; have EX := decide_eq_true c9; clear c9; obtain ⟨Ih, Xi⟩ : ∃ j_ : Int, (wrap64 (bL - 1)) = j_ := ⟨_, rfl⟩; replace H : (if 0 ≤ (Ih) then (if (Ih) < (l1.length : Int) then (if (rd l1 bL) ≤ (rd l1 (Ih)) then (some false) else (dU.l0 k1 l1 (wrap64 (bL + 1)) au ah)) else (none)) else (none)) = some r := by first | (rw [Xi] at H; exact H) | (simp only [Xi] at H ⊢; exact H)
             have avr : (IntKind.i64.wrap (bL - 1)) = Ih := (nE _).trans Xi; by_cases c11 : 0 ≤ (Ih)
             · rw [if_pos c11] at H; have EY := decide_eq_true c11; clear c11; by_cases c12 : (Ih) < (l1.length : Int)
               · rw [if_pos c12] at H; have Aj := decide_eq_true c12; clear c12; by_cases c13 : (rd l1 bL) ≤ (rd l1 (Ih))
                 · rw [if_pos c13] at H; have RU := decide_eq_true c13; clear c13; obtain rfl := Option.some.inj H; have BD : 0 ≤ (bL : Int) := zo; have BF : bL < (l1.length : Int) := zo; obtain ⟨Cn, O8, qO⟩ := Kd.eP HR1.out bL BD BF; cases O8; replace qO := (zx HB qO :); replace BD := eq_true BD; replace BF := eq_true BF; have EA : 0 ≤ (bL : Int) := zo; have EB : bL < (l1.length : Int) := zo; obtain ⟨Lp, UU, uD⟩ := Kd.eP HR1.out bL EA EB; obtain rfl : Cn = Lp := (by injection UU); replace uD := (zx HB uD :); replace EA := eq_true EA; replace EB := eq_true EB; obtain ⟨_, _, _, _⟩ := iG Em; have UW : 0 ≤ (bL : Int) := zo; have UX : bL < (l1.length : Int) := zo; obtain ⟨acp, akR, F5⟩ := Kd.eP HR1.out bL UW UX; obtain rfl : Cn = acp := (by injection akR); replace F5 := (zx HB F5 :); replace UW := eq_true UW; replace UX := eq_true UX; have UY : 0 ≤ ((Ih) : Int) := zo; have UZ : (Ih) < (l1.length : Int) := zo; obtain ⟨acr, akS, F6⟩ := Kd.eP HR1.out (Ih) UY UZ; obtain rfl : Cn = acr := (by injection akS); replace F6 := (zx HB F6 :); replace UY := eq_true UY; replace UZ := eq_true UZ; go_wp2; repeat (go_quiet (fail); try go_wp2)
                   go_ret; exact ⟨by first | rfl | (simp [jf, jg] <;> rfl) | (simp only [← Xi]; first | rfl | (simp [jf, jg] <;> rfl)) | (simp [*, jf, jg] <;> rfl), zB HB⟩
                 · rw [if_neg c13] at H; have RU := decide_eq_false c13; clear c13; have H' := zA H; clear H; have BD : 0 ≤ (bL : Int) := zo; have BF : bL < (l1.length : Int) := zo; obtain ⟨Cn, O8, qO⟩ := Kd.eP HR1.out bL BD BF; cases O8; replace qO := (zx HB qO :); replace BD := eq_true BD; replace BF := eq_true BF; have EA : 0 ≤ (bL : Int) := zo; have EB : bL < (l1.length : Int) := zo; obtain ⟨Lp, UU, uD⟩ := Kd.eP HR1.out bL EA EB; obtain rfl : Cn = Lp := (by injection UU); replace uD := (zx HB uD :); replace EA := eq_true EA; replace EB := eq_true EB; obtain ⟨_, _, _, _⟩ := iG Em; have UW : 0 ≤ (bL : Int) := zo; have UX : bL < (l1.length : Int) := zo; obtain ⟨acp, akR, F5⟩ := Kd.eP HR1.out bL UW UX; obtain rfl : Cn = acp := (by injection akR); replace F5 := (zx HB F5 :); replace UW := eq_true UW; replace UX := eq_true UX; have UY : 0 ≤ ((Ih) : Int) := zo; have UZ : (Ih) < (l1.length : Int) := zo; obtain ⟨acr, akS, F6⟩ := Kd.eP HR1.out (Ih) UY UZ; obtain rfl : Cn = acr := (by injection akS); replace F6 := (zx HB F6 :); replace UY := eq_true UY; replace UZ := eq_true UZ; go_wp2; repeat (go_quiet (fail); try go_wp2)
                   go_roundg k1
                   case measure => have := iU.out; omega
                   case rel => exact ⟨(wrap64 (bL + 1)), zv, H', ⟨by have := iU.out; omega⟩, ⟨zK Em⟩, ⟨zB HB⟩⟩
               · rw [if_neg c12] at H; exact absurd H (by simp)
             · rw [if_neg c11] at H; exact absurd H (by simp)
           · rw [if_neg c9] at H; have EX := decide_eq_false c9; clear c9; have H' := zA H; clear H; have BD : 0 ≤ (bL : Int) := zo; have BF : bL < (l1.length : Int) := zo; obtain ⟨Cn, O8, qO⟩ := Kd.eP HR1.out bL BD BF; cases O8; replace qO := (zx HB qO :); replace BD := eq_true BD; replace BF := eq_true BF; have EA : 0 ≤ (bL : Int) := zo; have EB : bL < (l1.length : Int) := zo; obtain ⟨Lp, UU, uD⟩ := Kd.eP HR1.out bL EA EB; obtain rfl : Cn = Lp := (by injection UU); replace uD := (zx HB uD :); replace EA := eq_true EA; replace EB := eq_true EB; obtain ⟨_, _, _, _⟩ := iG Em; go_wp2; repeat (go_quiet (fail); try go_wp2)
             go_roundg k1
             case measure => have := iU.out; omega
             case rel => exact ⟨(wrap64 (bL + 1)), zv, H', ⟨by have := iU.out; omega⟩, ⟨zK Em⟩, ⟨zB HB⟩⟩
     · rw [if_neg c5] at H; exact absurd H (by simp)
   · rw [if_neg c4] at H; have qU := decide_eq_false c4; clear c4; obtain rfl := Option.some.inj H; go_wp2; repeat (go_quiet (fail); try go_wp2)
     go_ret; exact ⟨ze, zB HB⟩
def bI.j0 : Nat → List Int → Bool → Int → List (aD) → Option (Int)
 | 0, _, _, _, _ => none
 | k + 1, x1, x18, ae8, ae9 => if x18 = true then (some 4) else ((dU.f k ae8 ae9 x1).bind fun akT => (if akT = true then (some 0) else (some 1)))
def bI.f (k : Nat) (au : Int) (ah : List (aD)) (l1 : List Int) (a2 : Int) : Option (Int) := (aC.f k au ah).bind fun Ii => (if Ii = 0 then (if a2 = 1 then (bI.j0 k l1 false au ah) else (bI.j0 k l1 (a2 != 2) au ah)) else (some Ii))
theorem bI.calls (k : Nat) (au : Int) (aZ : Option Addr) (aW : Nat) (ah : List (aD)) (A1 : Option Addr) (c1 : Nat) (l1 : List Int) (a2 : Int) (r : Int) (w : World) (eY : Kd.C gm w aZ ah.length ah) (eZ : ah.length ≤ aW) (hr1 : Kd.C (Kd.int .i64) w A1 l1.length l1) (hc1 : l1.length ≤ c1) (h : bI.f k au ah l1 a2 = some r) :
 Calls Tryd.prog 32 #[.agg #[.int .i64 au, .slice aZ ah.length aW], .slice A1 l1.length c1, .int .i64 a2] w fun e w' => e = .returned (.int .i64 r) ∧ Below w.heap.size w w' := by
 have uk := Tryd.underlying24; have cz := zA eY; have dX := zA eZ; clear eY eZ; have HR1 := zA hr1; have rX := zA hc1; clear hr1 hc1; have HB := zA (Below.refl w.heap.size w); have H : ((aC.f k au ah).bind fun Ii => (if Ii = 0 then (if a2 = 1 then (bI.j0 k l1 false au ah) else (bI.j0 k l1 (a2 != 2) au ah)) else (some Ii))) = some r := h; clear h; replace H := zE H; obtain ⟨Ii, A4, H⟩ := H; (try dsimp only at H); by_cases c5 : Ii = 0
 · rw [if_pos c5] at H; have pM : (Ii == 0) = true := beq_iff_eq.mpr c5; have yh : (Ii != 0) = false := bne_eq_false_iff_eq.mpr c5; clear c5; have HC6 := zA H; clear H; go_enter Tryd.func32, Tryd.ntmps32; go_upto_region 4 with (first | ((with_reducible refine aH (N := 3) rfl ?_); refine zX (N := 3) (cs := #[.int .i64 au, .slice aZ ah.length aW]) (t := 24) ?_; intro ahp hg w7 aG hb; have wN := zA (aG); have apT := zA (zW hg HB); have apU := zA (zW hg HB); replace HB := zA (af (zB HB) hb); clear hb aG hg; obtain ⟨_, _, _, _⟩ := iG wN) | ((with_reducible refine ay (f := 44) rfl ?_); refine zG (some 9) rfl Tryd.func44 #[.agg #[.int .i64 au, .slice aZ ah.length aW]] ?_; (with_reducible refine (aC.calls k au _ _ ah Ii _ ?aI ?aN A4.out).mono ?_); (case aI => exact jB cz HB); (case aN => exact dX.out); rintro e w9 ⟨rfl, hb⟩; refine ⟨_, rfl, ?_⟩; replace wN := zA (dn wN hb); replace HB := zA (af (zB HB) hb)))
   (try simp only [Act.put, List.setIfInBounds_toArray, List.set_cons_zero, List.set_cons_succ]); go_cut [18] (fun v18 wc => ∃ (kq : Nat) (Xj : Bool), v18 = .bool Xj ∧ ag (bI.j0 kq l1 Xj au ah = some r) ∧ ag (kq ≤ k) ∧ ag (wc.heap[ahp]? = some (.cells #[.int .i64 au, (.slice aZ ah.length aW)] 24 (0, 0))) ∧ ag (Below w.heap.size w wc))
   case first =>
    have H := HC6.out; clear HC6; by_cases c10 : a2 = 1
    · rw [if_pos c10] at H; have rR : (a2 == 1) = true := beq_iff_eq.mpr c10; have Rk : (a2 != 1) = false := bne_eq_false_iff_eq.mpr c10; clear c10; (first | rw [rR] | (simp only [nE, qJ]; rw [rR]) | skip); have H' := zA H; clear H; go_wp2; go_meet
      case rel => exact ⟨_, (false), zv, H', ⟨by first | omega | exact Nat.le_refl _⟩, ⟨zK wN⟩, ⟨zB HB⟩⟩
    · rw [if_neg c10] at H; have rR : (a2 == 1) = false := beq_eq_false_iff_ne.mpr c10; have Rk : (a2 != 1) = true := bne_iff_ne.mpr c10; (first | rw [rR] | (simp only [nE, qJ]; rw [rR]) | skip); have H' := zA H; clear H; go_wp2; go_meet
      case rel => exact ⟨_, ((a2 != 2)), zv, H', ⟨by first | omega | exact Nat.le_refl _⟩, ⟨zK wN⟩, ⟨zB HB⟩⟩
   case rest =>
    clear HC6
    obtain ⟨kq, Xj, rfl, HA, ZE, wN, HB⟩ := hcut; cases kq with
    | zero => exact absurd HA.out (by simp [bI.j0])
    | succ Y8 =>
     have H := HA.out; clear HA; simp only [bI.j0] at H; by_cases c11 : Xj = true
     · subst c11; rw [if_pos rfl] at H; obtain rfl := Option.some.inj H; go_wp2; go_ret; exact ⟨ze, zB HB⟩
     · replace c11 := Bool.eq_false_iff.mpr c11; subst c11; rw [if_neg (show ¬ (false = true) by decide)] at H; replace H := zE H; obtain ⟨akT, A12, H⟩ := H; (try dsimp only at H); by_cases c13 : akT = true
       · subst c13; rw [if_pos rfl] at H; obtain rfl := Option.some.inj H; obtain ⟨_, _, _, _⟩ := iG wN; go_wp2_with (first | ((with_reducible refine ay (f := 60) rfl ?_); refine zG (some 21) rfl Tryd.func60 #[.agg #[.int .i64 au, .slice aZ ah.length aW], .slice A1 l1.length c1] ?_; (with_reducible refine (dU.calls Y8 au _ _ ah _ _ l1 true _ ?aI ?aN ?bS ?bT A12.out).mono ?_); (case aI => exact jB cz HB); (case aN => exact dX.out); (case bS => exact jB HR1 HB); (case bT => exact rX.out); rintro e ZF ⟨rfl, hb⟩; refine ⟨_, rfl, ?_⟩; replace wN := zA (dn wN hb); replace HB := zA (af (zB HB) hb))); go_ret; exact ⟨ze, zB HB⟩
       · replace c13 := Bool.eq_false_iff.mpr c13; subst c13; rw [if_neg (show ¬ (false = true) by decide)] at H; obtain rfl := Option.some.inj H; obtain ⟨_, _, _, _⟩ := iG wN; go_wp2_with (first | ((with_reducible refine ay (f := 60) rfl ?_); refine zG (some 21) rfl Tryd.func60 #[.agg #[.int .i64 au, .slice aZ ah.length aW], .slice A1 l1.length c1] ?_; (with_reducible refine (dU.calls Y8 au _ _ ah _ _ l1 false _ ?aI ?aN ?bS ?bT A12.out).mono ?_); (case aI => exact jB cz HB); (case aN => exact dX.out); (case bS => exact jB HR1 HB); (case bT => exact rX.out); rintro e w17 ⟨rfl, hb⟩; refine ⟨_, rfl, ?_⟩; replace wN := zA (dn wN hb); replace HB := zA (af (zB HB) hb))); go_ret; exact ⟨ze, zB HB⟩
 · rw [if_neg c5] at H; have pM : (Ii == 0) = false := beq_eq_false_iff_ne.mpr c5; have yh : (Ii != 0) = true := bne_iff_ne.mpr c5; obtain rfl := Option.some.inj H; go_enter Tryd.func32, Tryd.ntmps32; go_wp2_with (first | ((with_reducible refine aH (N := 3) rfl ?_); refine zX (N := 3) (cs := #[.int .i64 au, .slice aZ ah.length aW]) (t := 24) ?_; intro ahp hg w18 aG hb; have wN := zA (aG); have apT := zA (zW hg HB); have apU := zA (zW hg HB); replace HB := zA (af (zB HB) hb); clear hb aG hg; obtain ⟨_, _, _, _⟩ := iG wN) | ((with_reducible refine ay (f := 44) rfl ?_); refine zG (some 9) rfl Tryd.func44 #[.agg #[.int .i64 au, .slice aZ ah.length aW]] ?_; (with_reducible refine (aC.calls k au _ _ ah Ii _ ?aI ?aN A4.out).mono ?_); (case aI => exact jB cz HB); (case aN => exact dX.out); rintro e w20 ⟨rfl, hb⟩; refine ⟨_, rfl, ?_⟩; replace wN := zA (dn wN hb); replace HB := zA (af (zB HB) hb))); go_ret; exact ⟨ze, zB HB⟩
end Go.Proofs.YtjmdlmogdbhdhaaDoor.P
namespace Go.Proofs.YtjmdlmogdbhdhaaDoor.P
open Go.RowKit Go.Proofs.YtjmdlmogdbhdhaaDoorW.PrintWords Go.Proofs.YtjmdlmogdbhdhaaDoorW.PrintLast Go.Proofs.YtjmdlmogdbhdhaaDoorW.PrintMore
def bad (N : Int) (p : aD) : Prop := p.f0 < 0 ∨ p.f0 ≥ N ∨ p.f1 < 0 ∨ p.f1 ≥ N
instance (N : Int) (p : aD) : Decidable (bad N p) := by unfold bad; infer_instance
instance (p q : aD) : Decidable (um p q) := by unfold um; infer_instance
def xq (L : List aD) (i : Nat) : aD := aa L (i : Int)
def Mt (N : Int) (L : List aD) : Nat → Nat → Int
  | 0, _ => 0
  | n + 1, i => if bad N (xq L i) then 1 else if 0 < i ∧ ¬ um (xq L (i - 1)) (xq L i) then 8 else Mt N L n (i + 1)
def D7 (N : Int) (L : List aD) : Int := if N < 0 ∨ N > 40 then 1 else Mt N L L.length 0
def gcv (p q : aD) : Int := if o8 p.f0 q.f0 = 0 then o8 p.f1 q.f1 else o8 p.f0 q.f0
theorem akU (p q : aD) : Ev (fun k => gL.f k p.f0 p.f1 q.f0 q.f1) (gcv p q) := Wj p q
theorem afa {p q : aD} : gcv p q ≥ 0 ↔ ¬ um p q := by
  unfold gcv o8 um
  by_cases h1 : p.f0 < q.f0
  · simp [h1]
  · by_cases h2 : p.f0 > q.f0
    · simp [h1, h2]
      omega
    · have h3 : p.f0 = q.f0 := by omega
      by_cases h4 : p.f1 < q.f1
      · simp [h3, h4]
      · by_cases h5 : p.f1 > q.f1
        · simp [h3, h4, h5]
          try omega
        · have : p.f1 = q.f1 := by omega
          simp [h3, this]
theorem Xk {N : Int} {L : List aD} (hl : L.length ≤ 1000000) : ∀ (n i : Nat), n + i = L.length → Ev (fun k => aX.l0 k L (L.length : Int) (i : Int) N L) (Mt N L n i)
  | 0, i, hi => by
    refine Ev.succ ?_
    simp only [aX.l0]
    exact Ev.neg (by omega) (Ev.const _)
  | n + 1, i, hi => by
    have hlt : i < L.length := by omega
    have ih := Xk (N := N) hl n (i + 1) (by omega)
    have hw := Ck i (by omega)
    have hj : ∀ b, b = decide (bad N (xq L i)) → Ev (fun k => aX.j2 k (i : Int) L (L.length : Int) (i : Int) b N L (aa L (i : Int)).f0 (aa L (i : Int)).f1) (Mt N L (n + 1) i) := by
      intro b hb
      refine Ev.succ ?_
      simp only [aX.j2, Mt, hw]
      by_cases hbad : bad N (xq L i)
      · rw [if_pos hbad]
        exact Ev.pos (by rw [hb]; exact decide_eq_true hbad) (Ev.const _)
      · rw [if_neg hbad]
        refine Ev.neg (by rw [hb]; simpa using hbad) ?_
        cases i with
        | zero =>
          rw [if_neg (by omega)]
          exact Ev.neg (by omega) ih
        | succ i =>
          have hw2 : wrap64 (((i + 1 : Nat) : Int) - 1) = (i : Int) := by rw [kT _ (by omega) (by omega)]; omega
          simp only [hw2]
          refine Ev.pos (by omega) (Ev.pos (by omega) (Ev.pos (by omega) (Ev.bind (akU (aa L (i : Int)) (aa L ((i + 1 : Nat) : Int))) ?_)))
          have hge := @afa (aa L (i : Int)) (aa L ((i + 1 : Nat) : Int))
          by_cases ho : um (xq L i) (xq L (i + 1))
          · rw [if_neg (by rintro ⟨_, h⟩; exact h ho)]
            exact Ev.neg (fun h => (hge.1 h) ho) ih
          · rw [if_pos ⟨by omega, ho⟩]
            exact Ev.pos (hge.2 ho) (Ev.const _)
    refine Ev.succ ?_
    simp only [aX.l0]
    refine Ev.pos (by omega) (Ev.pos (by omega) (Ev.pos (by omega) ?_))
    by_cases hm : mn (aa L (i : Int)).f0 (aa L (i : Int)).f1 < 0
    · refine Ev.pos hm (hj true ?_)
      rw [decide_eq_true]
      unfold bad xq
      unfold mn at hm
      split at hm <;> omega
    · refine Ev.neg hm (hj _ ?_)
      refine decide_eq_decide.2 ?_
      unfold bad xq mx
      unfold mn at hm
      split at hm <;> split <;> omega
theorem F7 {N : Int} {L : List aD} (hl : L.length ≤ 1000000) : Ev (fun k => aX.f k N L) (D7 N L) := by
  have h0 := Xk (N := N) hl L.length 0 (by omega)
  have hj : ∀ b, b = decide (N < 0 ∨ N > 40) → Ev (fun k => aX.j0 k b N L) (D7 N L) := by
    intro b hb
    refine Ev.succ ?_
    simp only [aX.j0]
    unfold D7
    by_cases h : N < 0 ∨ N > 40
    · rw [if_pos h]
      exact Ev.pos (by rw [hb]; exact decide_eq_true h) (Ev.const _)
    · rw [if_neg h]
      exact Ev.neg (by rw [hb]; simpa using h) h0
  simp only [aX.f]
  by_cases hn : N < 0
  · exact Ev.pos hn (hj true (by rw [decide_eq_true (.inl hn)]))
  · exact Ev.neg hn (hj _ (decide_eq_decide.2 (by omega)))
theorem RV {N : Int} {L : List aD} (hl : L.length ≤ 1000000) : ∀ (n i : Nat), n + i = L.length → Ev (fun k => aC.l0 k (i : Int) N L) (Mt N L n i)
  | 0, i, hi => by
    refine Ev.succ ?_
    simp only [aC.l0]
    exact Ev.neg (by omega) (Ev.const _)
  | n + 1, i, hi => by
    have hlt : i < L.length := by omega
    have ih := RV (N := N) hl n (i + 1) (by omega)
    have hw := Ck i (by omega)
    have hj : ∀ b, b = decide (bad N (xq L i)) → Ev (fun k => aC.j2 k (i : Int) b N L (aa L (i : Int)).f0 (aa L (i : Int)).f1) (Mt N L (n + 1) i) := by
      intro b hb
      refine Ev.succ ?_
      simp only [aC.j2, Mt, hw]
      by_cases hbad : bad N (xq L i)
      · rw [if_pos hbad]
        exact Ev.pos (by rw [hb]; exact decide_eq_true hbad) (Ev.const _)
      · rw [if_neg hbad]
        refine Ev.neg (by rw [hb]; simpa using hbad) ?_
        cases i with
        | zero =>
          rw [if_neg (by omega)]
          exact Ev.neg (by omega) ih
        | succ i =>
          have hw2 : wrap64 (((i + 1 : Nat) : Int) - 1) = (i : Int) := by rw [kT _ (by omega) (by omega)]; omega
          simp only [hw2]
          refine Ev.pos (by omega) (Ev.pos (by omega) (Ev.pos (by omega) ?_))
          by_cases ho : um (xq L i) (xq L (i + 1))
          · rw [if_neg (by rintro ⟨_, h⟩; exact h ho)]
            unfold um xq at ho
            refine Ev.neg (by omega) ?_
            by_cases he : (aa L (i : Int)).f0 = (aa L ((i + 1 : Nat) : Int)).f0
            · exact Ev.pos he (Ev.neg (by omega) ih)
            · exact Ev.neg he ih
          · rw [if_pos ⟨by omega, ho⟩]
            unfold um xq at ho
            by_cases h1 : (aa L (i : Int)).f0 > (aa L ((i + 1 : Nat) : Int)).f0
            · exact Ev.pos h1 (Ev.const _)
            · exact Ev.neg h1 (Ev.pos (by omega) (Ev.pos (by omega) (Ev.const _)))
    refine Ev.succ ?_
    simp only [aC.l0]
    refine Ev.pos (by omega) (Ev.pos (by omega) ?_)
    by_cases h1 : (aa L (i : Int)).f0 < 0
    · exact Ev.pos h1 (hj true (by rw [decide_eq_true]; exact .inl h1))
    · refine Ev.neg h1 ?_
      by_cases h2 : (aa L (i : Int)).f0 ≥ N
      · exact Ev.pos h2 (hj true (by rw [decide_eq_true]; exact .inr (.inl h2)))
      · refine Ev.neg h2 ?_
        by_cases h3 : (aa L (i : Int)).f1 < 0
        · exact Ev.pos h3 (hj true (by rw [decide_eq_true]; exact .inr (.inr (.inl h3))))
        · exact Ev.neg h3 (hj _ (decide_eq_decide.2 (by unfold bad xq; omega)))
theorem F8 {N : Int} {L : List aD} (hl : L.length ≤ 1000000) : Ev (fun k => aC.f k N L) (D7 N L) := by
  have h0 := RV (N := N) hl L.length 0 (by omega)
  have hj : ∀ b, b = decide (N < 0 ∨ N > 40) → Ev (fun k => aC.j0 k b N L) (D7 N L) := by
    intro b hb
    refine Ev.succ ?_
    simp only [aC.j0]
    unfold D7
    by_cases h : N < 0 ∨ N > 40
    · rw [if_pos h]
      exact Ev.pos (by rw [hb]; exact decide_eq_true h) (Ev.const _)
    · rw [if_neg h]
      exact Ev.neg (by rw [hb]; simpa using h) h0
  simp only [aC.f]
  by_cases hn : N < 0
  · exact Ev.pos hn (hj true (by rw [decide_eq_true (.inl hn)]))
  · exact Ev.neg hn (hj _ (decide_eq_decide.2 (by omega)))
theorem NB {N : Int} {L : List aD} : ∀ (n i : Nat), Mt N L n i = 0 → ∀ j, i ≤ j → j < i + n → ¬ bad N (xq L j) ∧ (0 < j → um (xq L (j - 1)) (xq L j))
  | 0, i, _, j, h1, h2 => by omega
  | n + 1, i, h, j, h1, h2 => by
    simp only [Mt] at h
    by_cases hb : bad N (xq L i)
    · rw [if_pos hb] at h; omega
    · rw [if_neg hb] at h
      by_cases ho : 0 < i ∧ ¬ um (xq L (i - 1)) (xq L i)
      · rw [if_pos ho] at h; omega
      · rw [if_neg ho] at h
        by_cases hji : j = i
        · subst hji
          exact ⟨hb, fun h0 => Decidable.byContradiction fun hn => ho ⟨h0, hn⟩⟩
        · exact NB n (i + 1) h j (by omega) (by omega)
theorem Ij {p q r : aD} (h1 : um p q) (h2 : um q r) : um p r := by unfold um at *; omega
theorem NC {N : Int} {L : List aD} (h : D7 N L = 0) : jd N L := by
  unfold D7 at h
  by_cases hn : N < 0 ∨ N > 40
  · rw [if_pos hn] at h; omega
  · rw [if_neg hn] at h
    have hv := NB L.length 0 h
    have hr : ∀ j (hj : j < L.length), xq L j = L[j] := fun j hj => o7 L j hj
    refine ⟨by omega, by omega, fun p hp => ?_, ?_⟩
    · obtain ⟨j, hj, rfl⟩ := List.getElem_of_mem hp
      have := (hv j (by omega) (by omega)).1
      rw [hr j hj] at this
      unfold bad at this
      omega
    · have hs : ∀ d i (hj : i + d + 1 < L.length), um (xq L i) (xq L (i + d + 1)) := by
        intro d
        induction d with
        | zero => intro i hj; exact (hv (i + 1) (by omega) (by omega)).2 (by omega)
        | succ d ih => intro i hj; exact Ij (ih i (by omega)) ((hv (i + d + 1 + 1) (by omega) (by omega)).2 (by omega))
      rw [List.pairwise_iff_getElem]
      intro i j hi hj hij
      have := hs (j - i - 1) i (by omega)
      rw [show i + (j - i - 1) + 1 = j by omega, hr i hi, hr j hj] at this
      exact this
def D8 (N : Int) (s : List Int) : Nat → Nat → Bool
  | 0, _ => true
  | n + 1, i => if rd s (i : Int) < 0 ∨ rd s (i : Int) ≥ N ∨ (0 < i ∧ rd s (i : Int) ≤ rd s ((i - 1 : Nat) : Int)) then false else D8 N s n (i + 1)
theorem Xl {N : Int} {s : List Int} (hl : s.length ≤ 1000000) : ∀ (n i : Nat), n + i = s.length → Ev (fun k => dG.l0 k s N s (s.length : Int) (i : Int)) (D8 N s n i)
  | 0, i, hi => by
    refine Ev.succ ?_
    simp only [dG.l0]
    exact Ev.neg (by omega) (Ev.const _)
  | n + 1, i, hi => by
    have ih := Xl (N := N) hl n (i + 1) (by omega)
    have hw := Ck i (by omega)
    refine Ev.succ ?_
    simp only [dG.l0, hw, D8]
    refine Ev.pos (by omega) (Ev.pos (by omega) (Ev.pos (by omega) ?_))
    by_cases h1 : rd s (i : Int) < 0
    · rw [if_pos (.inl h1)]
      exact Ev.pos h1 (Ev.const _)
    · refine Ev.neg h1 ?_
      by_cases h2 : rd s (i : Int) ≥ N
      · rw [if_pos (.inr (.inl h2))]
        exact Ev.pos h2 (Ev.const _)
      · refine Ev.neg h2 ?_
        cases i with
        | zero =>
          rw [if_neg (by omega)]
          exact Ev.neg (by omega) ih
        | succ i =>
          have hw2 : wrap64 (((i + 1 : Nat) : Int) - 1) = (i : Int) := by rw [kT _ (by omega) (by omega)]; omega
          simp only [hw2, Nat.add_sub_cancel]
          refine Ev.pos (by omega) (Ev.pos (by omega) (Ev.pos (by omega) ?_))
          by_cases h3 : rd s ((i + 1 : Nat) : Int) ≤ rd s (i : Int)
          · rw [if_pos (.inr (.inr ⟨by omega, h3⟩))]
            exact Ev.pos h3 (Ev.const _)
          · rw [if_neg (by omega)]
            exact Ev.neg h3 ih
theorem RX {N : Int} {L : List aD} {s : List Int} (hl : s.length ≤ 1000000) : ∀ (n i : Nat), n + i = s.length → Ev (fun k => dU.l0 k s (i : Int) N L) (D8 N s n i)
  | 0, i, hi => by
    refine Ev.succ ?_
    simp only [dU.l0]
    exact Ev.neg (by omega) (Ev.const _)
  | n + 1, i, hi => by
    have ih := RX (N := N) (L := L) hl n (i + 1) (by omega)
    have hw := Ck i (by omega)
    refine Ev.succ ?_
    simp only [dU.l0, hw, D8]
    refine Ev.pos (by omega) (Ev.pos (by omega) ?_)
    by_cases h1 : rd s (i : Int) < 0
    · rw [if_pos (.inl h1)]
      exact Ev.pos h1 (Ev.const _)
    · refine Ev.neg h1 ?_
      by_cases h2 : rd s (i : Int) ≥ N
      · rw [if_pos (.inr (.inl h2))]
        exact Ev.pos h2 (Ev.const _)
      · refine Ev.neg h2 ?_
        cases i with
        | zero =>
          rw [if_neg (by omega)]
          exact Ev.neg (by omega) ih
        | succ i =>
          have hw2 : wrap64 (((i + 1 : Nat) : Int) - 1) = (i : Int) := by rw [kT _ (by omega) (by omega)]; omega
          simp only [hw2, Nat.add_sub_cancel]
          refine Ev.pos (by omega) (Ev.pos (by omega) (Ev.pos (by omega) ?_))
          by_cases h3 : rd s ((i + 1 : Nat) : Int) ≤ rd s (i : Int)
          · rw [if_pos (.inr (.inr ⟨by omega, h3⟩))]
            exact Ev.pos h3 (Ev.const _)
          · rw [if_neg (by omega)]
            exact Ev.neg h3 ih
theorem ND {N : Int} {s : List Int} : ∀ (n i : Nat), D8 N s n i = true → ∀ j, i ≤ j → j < i + n → 0 ≤ rd s (j : Int) ∧ rd s (j : Int) < N ∧ (0 < j → rd s ((j - 1 : Nat) : Int) < rd s (j : Int))
  | 0, i, _, j, h1, h2 => by omega
  | n + 1, i, h, j, h1, h2 => by
    simp only [D8] at h
    by_cases hc : rd s (i : Int) < 0 ∨ rd s (i : Int) ≥ N ∨ (0 < i ∧ rd s (i : Int) ≤ rd s ((i - 1 : Nat) : Int))
    · rw [if_pos hc] at h; cases h
    · rw [if_neg hc] at h
      by_cases hji : j = i
      · subst hji
        exact ⟨by omega, by omega, fun h0 => by omega⟩
      · exact ND n (i + 1) h j (by omega) (by omega)
theorem acs {N : Int} {s : List Int} (h : D8 N s s.length 0 = true) : mD N s := by
  have hv := ND s.length 0 h
  have hr : ∀ j (hj : j < s.length), rd s (j : Int) = s[j] := fun j hj => pQ s j hj
  refine ⟨fun x hx => ?_, ?_⟩
  · obtain ⟨j, hj, rfl⟩ := List.getElem_of_mem hx
    have := hv j (by omega) (by omega)
    rw [hr j hj] at this
    exact ⟨this.1, this.2.1⟩
  · have hs : ∀ d i (hj : i + d + 1 < s.length), rd s (i : Int) < rd s ((i + d + 1 : Nat) : Int) := by
      intro d
      induction d with
      | zero => intro i hj; exact (hv (i + 1) (by omega) (by omega)).2.2 (by omega)
      | succ d ih =>
        intro i hj
        have h1 := ih i (by omega)
        have h2 := (hv (i + d + 1 + 1) (by omega) (by omega)).2.2 (by omega)
        rw [show i + d + 1 + 1 - 1 = i + d + 1 by omega] at h2
        rw [show i + (d + 1) + 1 = i + d + 1 + 1 by omega]
        omega
    rw [List.pairwise_iff_getElem]
    intro i j hi hj hij
    have := hs (j - i - 1) i (by omega)
    rw [show i + (j - i - 1) + 1 = j by omega, hr i hi, hr j hj] at this
    exact this
def vZ (N : Int) (L : List aD) (s : List Int) (kind : Int) : Int :=
  if D7 N L = 0 then (if kind ≠ 1 ∧ kind ≠ 2 then 4 else if D8 N s s.length 0 = true then 0 else 1) else D7 N L
theorem O9 {N : Int} {L : List aD} {s : List Int} {kind : Int} (hl : L.length ≤ 1000000) (hs : s.length ≤ 1000000) : Ev (fun k => bK.f k N L s kind) (vZ N L s kind) := by
  have ha : Ev (fun k => dG.f k s N) (D8 N s s.length 0) := Xl hs s.length 0 (by omega)
  simp only [bK.f]
  refine Ev.bind (F7 hl) ?_
  unfold vZ
  by_cases hv : D7 N L = 0
  · rw [if_pos hv]
    refine Ev.pos hv ?_
    have hj : ∀ b, b = decide (kind ≠ 1 ∧ kind ≠ 2) → Ev (fun k => bK.j0 k s b N L) (if kind ≠ 1 ∧ kind ≠ 2 then 4 else if D8 N s s.length 0 = true then 0 else 1) := by
      intro b hb
      refine Ev.succ ?_
      simp only [bK.j0]
      by_cases hk : kind ≠ 1 ∧ kind ≠ 2
      · rw [if_pos hk]
        exact Ev.pos (by rw [hb]; exact decide_eq_true hk) (Ev.const _)
      · rw [if_neg hk]
        refine Ev.neg (by rw [hb, decide_eq_false hk]; simp) (Ev.bind ha ?_)
        cases D8 N s s.length 0 with
        | true => exact Ev.pos rfl (Ev.const _)
        | false => exact Ev.neg (by simp) (Ev.const _)
    by_cases h1 : kind = 1
    · exact Ev.pos h1 (hj false (by rw [decide_eq_false (by omega)]))
    · refine Ev.neg h1 (hj _ ?_)
      by_cases h2 : kind = 2
      · rw [decide_eq_false (by omega)]; simp [h2]
      · rw [decide_eq_true ⟨h1, h2⟩]; simp [h2]
  · rw [if_neg hv]
    exact Ev.neg hv (Ev.const _)
theorem Xm {N : Int} {L : List aD} {s : List Int} {kind : Int} (hl : L.length ≤ 1000000) (hs : s.length ≤ 1000000) : Ev (fun k => bI.f k N L s kind) (vZ N L s kind) := by
  have ha : Ev (fun k => dU.f k N L s) (D8 N s s.length 0) := RX hs s.length 0 (by omega)
  simp only [bI.f]
  refine Ev.bind (F8 hl) ?_
  unfold vZ
  by_cases hv : D7 N L = 0
  · rw [if_pos hv]
    refine Ev.pos hv ?_
    have hj : ∀ b, b = decide (kind ≠ 1 ∧ kind ≠ 2) → Ev (fun k => bI.j0 k s b N L) (if kind ≠ 1 ∧ kind ≠ 2 then 4 else if D8 N s s.length 0 = true then 0 else 1) := by
      intro b hb
      refine Ev.succ ?_
      simp only [bI.j0]
      by_cases hk : kind ≠ 1 ∧ kind ≠ 2
      · rw [if_pos hk]
        exact Ev.pos (by rw [hb]; exact decide_eq_true hk) (Ev.const _)
      · rw [if_neg hk]
        refine Ev.neg (by rw [hb, decide_eq_false hk]; simp) (Ev.bind ha ?_)
        cases D8 N s s.length 0 with
        | true => exact Ev.pos rfl (Ev.const _)
        | false => exact Ev.neg (by simp) (Ev.const _)
    by_cases h1 : kind = 1
    · exact Ev.pos h1 (hj false (by rw [decide_eq_false (by omega)]))
    · refine Ev.neg h1 (hj _ ?_)
      by_cases h2 : kind = 2
      · rw [decide_eq_false (by omega)]; simp [h2]
      · rw [decide_eq_true ⟨h1, h2⟩]; simp [h2]
  · rw [if_neg hv]
    exact Ev.neg hv (Ev.const _)
theorem uY {N : Int} {L : List aD} {s : List Int} {kind : Int} (h : vZ N L s kind = 0) : jd N L ∧ mD N s ∧ (kind = 1 ∨ kind = 2) := by
  unfold vZ at h
  by_cases hv : D7 N L = 0
  · rw [if_pos hv] at h
    by_cases hk : kind ≠ 1 ∧ kind ≠ 2
    · rw [if_pos hk] at h; omega
    · rw [if_neg hk] at h
      by_cases ha : D8 N s s.length 0 = true
      · exact ⟨NC hv, acs ha, by omega⟩
      · rw [if_neg ha] at h; omega
  · rw [if_neg hv] at h; exact absurd h hv
end Go.Proofs.YtjmdlmogdbhdhaaDoor.P
namespace Go.Proofs.YtjmdlmogdbhdhaaDoor.P
open Go.RowKit Go.Proofs.YtjmdlmogdbhdhaaDoorW.PrintWords Go.Proofs.YtjmdlmogdbhdhaaDoorW.PrintLast Go.Proofs.YtjmdlmogdbhdhaaDoorW.PrintMore
attribute [local go_sem] iI iJ jP jQ gH gI iK iL
set_option linter.unusedVariables false
set_option linter.unusedSimpArgs false
set_option maxHeartbeats 8000000
set_option maxRecDepth 100000
def jA.f (au : Int) (sV : Int) (cB : Int) (dx : Int) : Option (Bool) := if au < cB then (some true) else (if au = cB then (some (decide (sV < dx))) else (some false))
theorem jA.calls (au : Int) (sV : Int) (cB : Int) (dx : Int) (r : Bool) (w : World) (h : jA.f au sV cB dx = some r) :
 Calls Tryd.prog 82 #[.agg #[.int .i64 au, .int .i64 sV], .agg #[.int .i64 cB, .int .i64 dx]] w fun e w' => e = .returned (.bool r) ∧ Below w.heap.size w w' := by
 have wV := Tryd.underlying42; have HB := zA (Below.refl w.heap.size w); have H : (if au < cB then (some true) else (if au = cB then (some (decide (sV < dx))) else (some false))) = some r := h; clear h; by_cases c3 : au < cB
 · rw [if_pos c3] at H; have zF := decide_eq_true c3; clear c3; obtain rfl := Option.some.inj H; go_enter Tryd.func82, Tryd.ntmps82; go_wp2_with (first | ((with_reducible refine aH (N := 2) rfl ?_); refine zX (N := 2) (cs := #[.int .i64 au, .int .i64 sV]) (t := 42) ?_; intro ahq hg w4 aG hb; have wh := zA (aG); have ahr := zA (zW hg HB); have ahs := zA (zW hg HB); replace HB := zA (af (zB HB) hb); clear hb aG hg) | ((with_reducible refine aH (N := 3) rfl ?_); refine zX (N := 3) (cs := #[.int .i64 cB, .int .i64 dx]) (t := 42) ?_; intro aht hg w5 aG hb; have RY := zA (aG); have ahu := zA (zW hg HB); have ahv := zA (zW hg HB); have AR := zA (lZ hg wh); have AU := zA (l5 hg wh); replace wh := zA (dn wh hb); replace HB := zA (af (zB HB) hb); clear hb aG hg; have aCK := AR.out; have aCL := AU.out; obtain ⟨_, _, _, _⟩ := iG wh; obtain ⟨_, _, _, _⟩ := iG RY)); go_ret; exact ⟨ze, zB HB⟩
 · rw [if_neg c3] at H; have zF := decide_eq_false c3; clear c3; by_cases c9 : au = cB
   · rw [if_pos c9] at H; have EX : (au == cB) = true := beq_iff_eq.mpr c9; have ab8 : (au != cB) = false := bne_eq_false_iff_eq.mpr c9; clear c9; obtain rfl := Option.some.inj H; go_enter Tryd.func82, Tryd.ntmps82; go_wp2_with (first | ((with_reducible refine aH (N := 2) rfl ?_); refine zX (N := 2) (cs := #[.int .i64 au, .int .i64 sV]) (t := 42) ?_; intro ahq hg yu aG hb; have wh := zA (aG); have ahr := zA (zW hg HB); have ahs := zA (zW hg HB); replace HB := zA (af (zB HB) hb); clear hb aG hg) | ((with_reducible refine aH (N := 3) rfl ?_); refine zX (N := 3) (cs := #[.int .i64 cB, .int .i64 dx]) (t := 42) ?_; intro aht hg QE aG hb; have RY := zA (aG); have ahu := zA (zW hg HB); have ahv := zA (zW hg HB); have AR := zA (lZ hg wh); have AU := zA (l5 hg wh); replace wh := zA (dn wh hb); replace HB := zA (af (zB HB) hb); clear hb aG hg; have QL := AR.out; have QM := AU.out; obtain ⟨_, _, _, _⟩ := iG wh; obtain ⟨_, _, _, _⟩ := iG RY)); go_ret; exact ⟨ze, zB HB⟩
   · rw [if_neg c9] at H; have EX : (au == cB) = false := beq_eq_false_iff_ne.mpr c9; have ab8 : (au != cB) = true := bne_iff_ne.mpr c9; obtain rfl := Option.some.inj H; go_enter Tryd.func82, Tryd.ntmps82; go_wp2_with (first | ((with_reducible refine aH (N := 2) rfl ?_); refine zX (N := 2) (cs := #[.int .i64 au, .int .i64 sV]) (t := 42) ?_; intro ahq hg ZF aG hb; have wh := zA (aG); have ahr := zA (zW hg HB); have ahs := zA (zW hg HB); replace HB := zA (af (zB HB) hb); clear hb aG hg) | ((with_reducible refine aH (N := 3) rfl ?_); refine zX (N := 3) (cs := #[.int .i64 cB, .int .i64 dx]) (t := 42) ?_; intro aht hg w16 aG hb; have RY := zA (aG); have ahu := zA (zW hg HB); have ahv := zA (zW hg HB); have AR := zA (lZ hg wh); have AU := zA (l5 hg wh); replace wh := zA (dn wh hb); replace HB := zA (af (zB HB) hb); clear hb aG hg; have Xn := AR.out; have Xo := AU.out; obtain ⟨_, _, _, _⟩ := iG wh; obtain ⟨_, _, _, _⟩ := iG RY)); go_ret; exact ⟨ze, zB HB⟩
end Go.Proofs.YtjmdlmogdbhdhaaDoor.P
