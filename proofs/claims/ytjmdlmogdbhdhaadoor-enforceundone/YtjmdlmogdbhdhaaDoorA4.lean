import Derived.Deep.DeepMust
import Derived.RegionTactic
import Derived.Lib.SliceRun
import Derived.Test.YtjmdlmogdbhdhaaDoorA2
import Derived.Test.YtjmdlmogdbhdhaaDoorA3
namespace Go.Proofs.YtjmdlmogdbhdhaaDoor.P
open Go.RowKit Go.Proofs.YtjmdlmogdbhdhaaDoorW.PrintWords Go.Proofs.YtjmdlmogdbhdhaaDoorW.PrintLast Go.Proofs.YtjmdlmogdbhdhaaDoorW.PrintMore
attribute [local go_sem] max2_int min2_int max_two min_two max_three min_three max_four min_four   -- for this text's walks alone
set_option linter.unusedVariables false
set_option linter.unusedSimpArgs false
/-! ### enforce_duties: function 52 -/
mutual
def enforce_duties.l0 : Nat → List Int → Int → Int → List (List (S42)) → List (S42) → Int → Int → Int → List (S42) → Int → List Int → List Int → Option ((List (List (S42))))
 | 0, _, _, _, _, _, _, _, _, _, _, _, _ => none
 | k + 1, x1, x2, x7, x9, x24, x25, x26, x191000, x191001, x200000, x200001, x200002 => if x26 < x25 then (if 0 ≤ x26 then (if x26 < (x24.length : Int) then ((network_Set_Has.f x7 ((rd_T42 x24 x26).f0)).bind fun t202 => (if t202 = true then ((network_Set_Has.f x7 ((rd_T42 x24 x26).f1)).bind fun t203 => (if t203 = true then (if x9.length < 5864062014805 then (enforce_duties.l0 k x1 x2 x7 (x9 ++ [(([(⟨(rd_T42 x24 x26).f0, (rd_T42 x24 x26).f1⟩ : S42)] : List (S42)))]) x24 x25 (wrap64 (x26 + 1)) x191000 x191001 x200000 x200001 x200002) else (none)) else (enforce_duties.l0 k x1 x2 x7 x9 x24 x25 (wrap64 (x26 + 1)) x191000 x191001 x200000 x200001 x200002))) else (enforce_duties.l0 k x1 x2 x7 x9 x24 x25 (wrap64 (x26 + 1)) x191000 x191001 x200000 x200001 x200002))) else (none)) else (none)) else ((network_Net_Hit.f k x200000 x200001 x200002 x7).bind fun t210 => (enforce_duties.l1 k x1 x2 x7 x9 t210 x191000 0 x200000 x200001 x200002))
def enforce_duties.l1 : Nat → List Int → Int → Int → List (List (S42)) → Int → Int → Int → Int → List Int → List Int → Option ((List (List (S42))))
 | 0, _, _, _, _, _, _, _, _, _, _ => none
 | k + 1, x1, x2, x7, x9, x12, x50, x51, x200000, x200001, x200002 => if x51 < x50 then ((network_Set_Has.f x7 x51).bind fun t211 => (if t211 = true then (enforce_duties.j2 k x1 x2 x7 x9 x12 x51 x50 x51 true x200000 x200001 x200002) else ((network_Set_Has.f x12 x51).bind fun t212 => (if t212 = true then (enforce_duties.j2 k x1 x2 x7 x9 x12 x51 x50 x51 true x200000 x200001 x200002) else (if x2 = 1 then (if 0 ≤ x51 then (if x51 < (x200002.length : Int) then (enforce_duties.j2 k x1 x2 x7 x9 x12 x51 x50 x51 ((Go.bits .and .u64 (rd x200002 x51) x7) == 0) x200000 x200001 x200002) else (none)) else (none)) else (enforce_duties.j2 k x1 x2 x7 x9 x12 x51 x50 x51 false x200000 x200001 x200002)))))) else (some x9)
def enforce_duties.j2 : Nat → List Int → Int → Int → List (List (S42)) → Int → Int → Int → Int → Bool → Int → List Int → List Int → Option ((List (List (S42))))
 | 0, _, _, _, _, _, _, _, _, _, _, _, _ => none
 | k + 1, x1, x2, x7, x9, x12, x13, x50, x51, x75, x200000, x200001, x200002 => if x75 = true then (enforce_duties.l1 k x1 x2 x7 x9 x12 x50 (wrap64 (x51 + 1)) x200000 x200001 x200002) else (enforce_duties.l2 k x1 x2 x7 x9 x12 x13 ([] : List (S42)) x50 x51 x1 (x1.length : Int) 0 x200000 x200001 x200002)
def enforce_duties.l2 : Nat → List Int → Int → Int → List (List (S42)) → Int → Int → List (S42) → Int → Int → List Int → Int → Int → Int → List Int → List Int → Option ((List (List (S42))))
 | 0, _, _, _, _, _, _, _, _, _, _, _, _, _, _, _ => none
 | k + 1, x1, x2, x7, x9, x12, x13, x14, x50, x51, x76, x77, x78, x200000, x200001, x200002 => if x78 < x77 then (if 0 ≤ x78 then (if x78 < (x76.length : Int) then (if x14.length < 8796093022208 then (enforce_duties.l2 k x1 x2 x7 x9 x12 x13 (x14 ++ [(⟨rd x76 x78, x13⟩ : S42)]) x50 x51 x76 x77 (wrap64 (x78 + 1)) x200000 x200001 x200002) else (none)) else (none)) else (none)) else (if x2 = 1 then (if 0 ≤ x13 then (if x13 < (x200002.length : Int) then ((network_Set_List.f k (Go.bits .and .u64 (rd x200002 x13) x7)).bind fun t219 => (enforce_duties.l3 k x1 x2 x7 x9 x12 x13 x14 x50 x51 t219 (t219.length : Int) 0 x200000 x200001 x200002)) else (none)) else (none)) else ((api_Pair_42.f x14).bind fun t230 => (if x9.length < 5864062014805 then (enforce_duties.l1 k x1 x2 x7 (x9 ++ [t230]) x12 x50 (wrap64 (x51 + 1)) x200000 x200001 x200002) else (none))))
def enforce_duties.l3 : Nat → List Int → Int → Int → List (List (S42)) → Int → Int → List (S42) → Int → Int → List Int → Int → Int → Int → List Int → List Int → Option ((List (List (S42))))
 | 0, _, _, _, _, _, _, _, _, _, _, _, _, _, _, _ => none
 | k + 1, x1, x2, x7, x9, x12, x13, x14, x50, x51, x98, x99, x100, x200000, x200001, x200002 => if x100 < x99 then (if 0 ≤ x100 then (if x100 < (x98.length : Int) then (if x14.length < 8796093022208 then (enforce_duties.l3 k x1 x2 x7 x9 x12 x13 (x14 ++ [(⟨x13, rd x98 x100⟩ : S42)]) x50 x51 x98 x99 (wrap64 (x100 + 1)) x200000 x200001 x200002) else (none)) else (none)) else (none)) else ((api_Pair_42.f x14).bind fun t226 => (if x9.length < 5864062014805 then (enforce_duties.l1 k x1 x2 x7 (x9 ++ [t226]) x12 x50 (wrap64 (x51 + 1)) x200000 x200001 x200002) else (none)))
end
def enforce_duties.f (k : Nat) (a0_0 : Int) (l0_1 : List (S42)) (l1 : List Int) (a2 : Int) : Option ((List (List (S42)))) := (network_Of.f k l1).bind fun t191 => ((network_New.f k a0_0 l0_1).bind fun bt192 => (enforce_duties.l0 k l1 a2 t191 ([] : List (List (S42))) l0_1 (l0_1.length : Int) 0 a0_0 l0_1 bt192.1 bt192.2.1 bt192.2.2))
theorem enforce_duties.mono_l : ∀ k, (∀ y0 y1 y2 y3 y4 y5 y6 y7 y8 y9 y10 y11, LeO (enforce_duties.l0 k y0 y1 y2 y3 y4 y5 y6 y7 y8 y9 y10 y11) (enforce_duties.l0 (k + 1) y0 y1 y2 y3 y4 y5 y6 y7 y8 y9 y10 y11)) ∧ (∀ y0 y1 y2 y3 y4 y5 y6 y7 y8 y9, LeO (enforce_duties.l1 k y0 y1 y2 y3 y4 y5 y6 y7 y8 y9) (enforce_duties.l1 (k + 1) y0 y1 y2 y3 y4 y5 y6 y7 y8 y9)) ∧ (∀ y0 y1 y2 y3 y4 y5 y6 y7 y8 y9 y10 y11, LeO (enforce_duties.j2 k y0 y1 y2 y3 y4 y5 y6 y7 y8 y9 y10 y11) (enforce_duties.j2 (k + 1) y0 y1 y2 y3 y4 y5 y6 y7 y8 y9 y10 y11)) ∧ (∀ y0 y1 y2 y3 y4 y5 y6 y7 y8 y9 y10 y11 y12 y13 y14, LeO (enforce_duties.l2 k y0 y1 y2 y3 y4 y5 y6 y7 y8 y9 y10 y11 y12 y13 y14) (enforce_duties.l2 (k + 1) y0 y1 y2 y3 y4 y5 y6 y7 y8 y9 y10 y11 y12 y13 y14)) ∧ (∀ y0 y1 y2 y3 y4 y5 y6 y7 y8 y9 y10 y11 y12 y13 y14, LeO (enforce_duties.l3 k y0 y1 y2 y3 y4 y5 y6 y7 y8 y9 y10 y11 y12 y13 y14) (enforce_duties.l3 (k + 1) y0 y1 y2 y3 y4 y5 y6 y7 y8 y9 y10 y11 y12 y13 y14))
 | 0 => ⟨fun _ _ _ _ _ _ _ _ _ _ _ _ r h => by simp [enforce_duties.l0] at h, fun _ _ _ _ _ _ _ _ _ _ r h => by simp [enforce_duties.l1] at h, fun _ _ _ _ _ _ _ _ _ _ _ _ r h => by simp [enforce_duties.j2] at h, fun _ _ _ _ _ _ _ _ _ _ _ _ _ _ _ r h => by simp [enforce_duties.l2] at h, fun _ _ _ _ _ _ _ _ _ _ _ _ _ _ _ r h => by simp [enforce_duties.l3] at h⟩
 | k + 1 => by
  obtain ⟨ih0, ih1, ih2, ih3, ih4⟩ := enforce_duties.mono_l k
  refine ⟨?_, ?_, ?_, ?_, ?_⟩
  · intro y0 y1 y2 y3 y4 y5 y6 y7 y8 y9 y10 y11
    unfold enforce_duties.l0
    repeat' first
    | (with_reducible exact ih0 _ _ _ _ _ _ _ _ _ _ _ _)
    | (with_reducible exact ih1 _ _ _ _ _ _ _ _ _ _)
    | (with_reducible exact ih2 _ _ _ _ _ _ _ _ _ _ _ _)
    | (with_reducible exact ih3 _ _ _ _ _ _ _ _ _ _ _ _ _ _ _)
    | (with_reducible exact ih4 _ _ _ _ _ _ _ _ _ _ _ _ _ _ _)
    | (with_reducible exact network_Net_Hit.mono _ _ _ _ _)
    | (with_reducible exact network_New.mono _ _ _)
    | (with_reducible exact network_Of.mono _ _)
    | (with_reducible exact network_Set_List.mono _ _)
    | (with_reducible exact LeO.refl _)
    | (with_reducible exact LeO.none _)
    | (with_reducible refine LeO.ite ?_ ?_)
    | (with_reducible refine LeO.bind ?_ (fun _ => ?_))
    | exact ih0 _ _ _ _ _ _ _ _ _ _ _ _
    | exact ih1 _ _ _ _ _ _ _ _ _ _
    | exact ih2 _ _ _ _ _ _ _ _ _ _ _ _
    | exact ih3 _ _ _ _ _ _ _ _ _ _ _ _ _ _ _
    | exact ih4 _ _ _ _ _ _ _ _ _ _ _ _ _ _ _
    | exact network_Net_Hit.mono _ _ _ _ _
    | exact network_New.mono _ _ _
    | exact network_Of.mono _ _
    | exact network_Set_List.mono _ _
    | exact LeO.none _
    | refine LeO.ite ?_ ?_
    | refine LeO.bind ?_ (fun _ => ?_)
  · intro y0 y1 y2 y3 y4 y5 y6 y7 y8 y9
    unfold enforce_duties.l1
    repeat' first
    | (with_reducible exact ih0 _ _ _ _ _ _ _ _ _ _ _ _)
    | (with_reducible exact ih1 _ _ _ _ _ _ _ _ _ _)
    | (with_reducible exact ih2 _ _ _ _ _ _ _ _ _ _ _ _)
    | (with_reducible exact ih3 _ _ _ _ _ _ _ _ _ _ _ _ _ _ _)
    | (with_reducible exact ih4 _ _ _ _ _ _ _ _ _ _ _ _ _ _ _)
    | (with_reducible exact network_Net_Hit.mono _ _ _ _ _)
    | (with_reducible exact network_New.mono _ _ _)
    | (with_reducible exact network_Of.mono _ _)
    | (with_reducible exact network_Set_List.mono _ _)
    | (with_reducible exact LeO.refl _)
    | (with_reducible exact LeO.none _)
    | (with_reducible refine LeO.ite ?_ ?_)
    | (with_reducible refine LeO.bind ?_ (fun _ => ?_))
    | exact ih0 _ _ _ _ _ _ _ _ _ _ _ _
    | exact ih1 _ _ _ _ _ _ _ _ _ _
    | exact ih2 _ _ _ _ _ _ _ _ _ _ _ _
    | exact ih3 _ _ _ _ _ _ _ _ _ _ _ _ _ _ _
    | exact ih4 _ _ _ _ _ _ _ _ _ _ _ _ _ _ _
    | exact network_Net_Hit.mono _ _ _ _ _
    | exact network_New.mono _ _ _
    | exact network_Of.mono _ _
    | exact network_Set_List.mono _ _
    | exact LeO.none _
    | refine LeO.ite ?_ ?_
    | refine LeO.bind ?_ (fun _ => ?_)
  · intro y0 y1 y2 y3 y4 y5 y6 y7 y8 y9 y10 y11
    unfold enforce_duties.j2
    repeat' first
    | (with_reducible exact ih0 _ _ _ _ _ _ _ _ _ _ _ _)
    | (with_reducible exact ih1 _ _ _ _ _ _ _ _ _ _)
    | (with_reducible exact ih2 _ _ _ _ _ _ _ _ _ _ _ _)
    | (with_reducible exact ih3 _ _ _ _ _ _ _ _ _ _ _ _ _ _ _)
    | (with_reducible exact ih4 _ _ _ _ _ _ _ _ _ _ _ _ _ _ _)
    | (with_reducible exact network_Net_Hit.mono _ _ _ _ _)
    | (with_reducible exact network_New.mono _ _ _)
    | (with_reducible exact network_Of.mono _ _)
    | (with_reducible exact network_Set_List.mono _ _)
    | (with_reducible exact LeO.refl _)
    | (with_reducible exact LeO.none _)
    | (with_reducible refine LeO.ite ?_ ?_)
    | (with_reducible refine LeO.bind ?_ (fun _ => ?_))
    | exact ih0 _ _ _ _ _ _ _ _ _ _ _ _
    | exact ih1 _ _ _ _ _ _ _ _ _ _
    | exact ih2 _ _ _ _ _ _ _ _ _ _ _ _
    | exact ih3 _ _ _ _ _ _ _ _ _ _ _ _ _ _ _
    | exact ih4 _ _ _ _ _ _ _ _ _ _ _ _ _ _ _
    | exact network_Net_Hit.mono _ _ _ _ _
    | exact network_New.mono _ _ _
    | exact network_Of.mono _ _
    | exact network_Set_List.mono _ _
    | exact LeO.none _
    | refine LeO.ite ?_ ?_
    | refine LeO.bind ?_ (fun _ => ?_)
  · intro y0 y1 y2 y3 y4 y5 y6 y7 y8 y9 y10 y11 y12 y13 y14
    unfold enforce_duties.l2
    repeat' first
    | (with_reducible exact ih0 _ _ _ _ _ _ _ _ _ _ _ _)
    | (with_reducible exact ih1 _ _ _ _ _ _ _ _ _ _)
    | (with_reducible exact ih2 _ _ _ _ _ _ _ _ _ _ _ _)
    | (with_reducible exact ih3 _ _ _ _ _ _ _ _ _ _ _ _ _ _ _)
    | (with_reducible exact ih4 _ _ _ _ _ _ _ _ _ _ _ _ _ _ _)
    | (with_reducible exact network_Net_Hit.mono _ _ _ _ _)
    | (with_reducible exact network_New.mono _ _ _)
    | (with_reducible exact network_Of.mono _ _)
    | (with_reducible exact network_Set_List.mono _ _)
    | (with_reducible exact LeO.refl _)
    | (with_reducible exact LeO.none _)
    | (with_reducible refine LeO.ite ?_ ?_)
    | (with_reducible refine LeO.bind ?_ (fun _ => ?_))
    | exact ih0 _ _ _ _ _ _ _ _ _ _ _ _
    | exact ih1 _ _ _ _ _ _ _ _ _ _
    | exact ih2 _ _ _ _ _ _ _ _ _ _ _ _
    | exact ih3 _ _ _ _ _ _ _ _ _ _ _ _ _ _ _
    | exact ih4 _ _ _ _ _ _ _ _ _ _ _ _ _ _ _
    | exact network_Net_Hit.mono _ _ _ _ _
    | exact network_New.mono _ _ _
    | exact network_Of.mono _ _
    | exact network_Set_List.mono _ _
    | exact LeO.none _
    | refine LeO.ite ?_ ?_
    | refine LeO.bind ?_ (fun _ => ?_)
  · intro y0 y1 y2 y3 y4 y5 y6 y7 y8 y9 y10 y11 y12 y13 y14
    unfold enforce_duties.l3
    repeat' first
    | (with_reducible exact ih0 _ _ _ _ _ _ _ _ _ _ _ _)
    | (with_reducible exact ih1 _ _ _ _ _ _ _ _ _ _)
    | (with_reducible exact ih2 _ _ _ _ _ _ _ _ _ _ _ _)
    | (with_reducible exact ih3 _ _ _ _ _ _ _ _ _ _ _ _ _ _ _)
    | (with_reducible exact ih4 _ _ _ _ _ _ _ _ _ _ _ _ _ _ _)
    | (with_reducible exact network_Net_Hit.mono _ _ _ _ _)
    | (with_reducible exact network_New.mono _ _ _)
    | (with_reducible exact network_Of.mono _ _)
    | (with_reducible exact network_Set_List.mono _ _)
    | (with_reducible exact LeO.refl _)
    | (with_reducible exact LeO.none _)
    | (with_reducible refine LeO.ite ?_ ?_)
    | (with_reducible refine LeO.bind ?_ (fun _ => ?_))
    | exact ih0 _ _ _ _ _ _ _ _ _ _ _ _
    | exact ih1 _ _ _ _ _ _ _ _ _ _
    | exact ih2 _ _ _ _ _ _ _ _ _ _ _ _
    | exact ih3 _ _ _ _ _ _ _ _ _ _ _ _ _ _ _
    | exact ih4 _ _ _ _ _ _ _ _ _ _ _ _ _ _ _
    | exact network_Net_Hit.mono _ _ _ _ _
    | exact network_New.mono _ _ _
    | exact network_Of.mono _ _
    | exact network_Set_List.mono _ _
    | exact LeO.none _
    | refine LeO.ite ?_ ?_
    | refine LeO.bind ?_ (fun _ => ?_)
theorem enforce_duties.mono : ∀ a0 a1 a2 a3 k, LeO (enforce_duties.f k a0 a1 a2 a3) (enforce_duties.f (k + 1) a0 a1 a2 a3) := by
 intro a0 a1 a2 a3 k
 obtain ⟨ih0, ih1, ih2, ih3, ih4⟩ := enforce_duties.mono_l k
 unfold enforce_duties.f
 repeat' first
  | (with_reducible exact ih0 _ _ _ _ _ _ _ _ _ _ _ _)
  | (with_reducible exact ih1 _ _ _ _ _ _ _ _ _ _)
  | (with_reducible exact ih2 _ _ _ _ _ _ _ _ _ _ _ _)
  | (with_reducible exact ih3 _ _ _ _ _ _ _ _ _ _ _ _ _ _ _)
  | (with_reducible exact ih4 _ _ _ _ _ _ _ _ _ _ _ _ _ _ _)
  | (with_reducible exact network_Net_Hit.mono _ _ _ _ _)
  | (with_reducible exact network_New.mono _ _ _)
  | (with_reducible exact network_Of.mono _ _)
  | (with_reducible exact network_Set_List.mono _ _)
  | (with_reducible exact LeO.refl _)
  | (with_reducible exact LeO.none _)
  | (with_reducible refine LeO.ite ?_ ?_)
  | (with_reducible refine LeO.bind ?_ (fun _ => ?_))
  | exact ih0 _ _ _ _ _ _ _ _ _ _ _ _
  | exact ih1 _ _ _ _ _ _ _ _ _ _
  | exact ih2 _ _ _ _ _ _ _ _ _ _ _ _
  | exact ih3 _ _ _ _ _ _ _ _ _ _ _ _ _ _ _
  | exact ih4 _ _ _ _ _ _ _ _ _ _ _ _ _ _ _
  | exact network_Net_Hit.mono _ _ _ _ _
  | exact network_New.mono _ _ _
  | exact network_Of.mono _ _
  | exact network_Set_List.mono _ _
  | exact LeO.none _
  | refine LeO.ite ?_ ?_
  | refine LeO.bind ?_ (fun _ => ?_)
set_option maxHeartbeats 8000000 in
set_option maxRecDepth 100000 in
theorem enforce_duties.calls (k : Nat) (a0_0 : Int) (A0_1 : Option Addr) (c0_1 : Nat) (l0_1 : List (S42)) (A1 : Option Addr) (c1 : Nat) (l1 : List Int) (a2 : Int) (r : List (List (S42))) (w : World) (hr0_1 : Kd.C k42 w A0_1 l0_1.length l0_1) (hc0_1 : l0_1.length ≤ c0_1) (hr1 : Kd.C (Kd.int .i64) w A1 l1.length l1) (hc1 : l1.length ≤ c1) (hT : TabT w) (h : enforce_duties.f k a0_0 l0_1 l1 a2 = some r) :
 Calls Tryd.prog 52 #[.agg #[.int .i64 a0_0, .slice A0_1 l0_1.length c0_1], .slice A1 l1.length c1, .int .i64 a2] w fun e w' => ∃ v0_ : Value, e = .returned (v0_) ∧ Kd.S (Kd.slice 42 k42) 22 w' w.heap.size (fun _ => True) v0_ r ∧ Below w.heap.size w w' := by
 have hu24 := Tryd.underlying24
 have hu80 := Tryd.underlying80
 have hu42 := Tryd.underlying42
 have HR0_1 := Aside0.mk hr0_1
 have HC0_1 := Aside0.mk hc0_1
 clear hr0_1 hc0_1
 have HR1 := Aside0.mk hr1
 have HC1 := Aside0.mk hc1
 clear hr1 hc1
 have HTab := Aside0.mk hT
 clear hT
 have HB := Aside0.mk (Below.refl w.heap.size w)
 have H : ((network_Of.f k l1).bind fun t191 => ((network_New.f k a0_0 l0_1).bind fun bt192 => (enforce_duties.l0 k l1 a2 t191 ([] : List (List (S42))) l0_1 (l0_1.length : Int) 0 a0_0 l0_1 bt192.1 bt192.2.1 bt192.2.2))) = some r := h
 clear h
 replace H := Option.bind_eq_some_iff.mp H
 obtain ⟨t191, A40, H⟩ := H
 replace H : ((network_New.f k a0_0 l0_1).bind fun bt192 => (enforce_duties.l0 k l1 a2 t191 ([] : List (List (S42))) l0_1 (l0_1.length : Int) 0 a0_0 l0_1 bt192.1 bt192.2.1 bt192.2.2)) = some r := H
 have A4 := Aside0.mk A40
 clear A40
 replace H := Option.bind_eq_some_iff.mp H
 obtain ⟨⟨t192, t193, t196⟩, A50, H⟩ := H
 replace H : (enforce_duties.l0 k l1 a2 t191 ([] : List (List (S42))) l0_1 (l0_1.length : Int) 0 a0_0 l0_1 t192 t193 t196) = some r := H
 have A5 := Aside0.mk A50
 clear A50
 have H' := Aside0.mk H
 clear H
 go_enter Tryd.func52, Tryd.ntmps52
 try go_wp2_with (first | ((with_reducible refine gate_dst (N := 3) rfl ?_); refine box_event ?hg (N := 3) ?hd (cs := #[.int .i64 a0_0, .slice A0_1 l0_1.length c0_1]) (t := 24) ?hr ?_; (case hd => rfl); (case hg => rfl); (case hr => first | (go_simp; done) | (go_simp; rfl)); intro gb190 hg w6 hbox hb; have n0_ := Aside0.mk (below_step (zB HB) hb); have n1_ := Aside0.mk (hbox); have n2_ := Aside0.mk ((by rw [hg]; exact (below_size (zB HB)) : w.heap.size ≤ gb190)); have n3_ := Aside0.mk ((by rw [hg]; exact (below_size (zB HB)) : w.heap.size ≤ gb190)); clear HB; have HB := n0_; have BK190 := n1_; have GW190 := n2_; have GE190 := n3_; clear n0_ n1_ n2_ n3_; clear hb hbox hg))
 have n0_ := Aside0.mk (blk_drew BK190.out)
 have n1_ := Aside0.mk (below_drew1 HB.out)
 clear BK190
 clear HB
 have BK190 := n0_
 have HB := n1_
 clear n0_ n1_
 refine start_ (n := 7) (S := fun w' => w'.cell? ⟨gb190, 0, none⟩ = some (.int .i64 a0_0) ∧ w'.cell? ⟨gb190, 1, none⟩ = some (.slice A0_1 l0_1.length c0_1)) (ds := []) #[false, false, false, false, false, false, false] (by kernel_rfl) rfl rfl ⟨(blk_cell BK190.out 0).trans rfl, (blk_cell BK190.out 1).trans rfl⟩ (fun hHeld => ?_)
 generalize w6.drew = w7 at BK190 HB hHeld ⊢
 refine pure_ (i := 0) (N := some 19) (v := ?_) (a' := ?_) #[true, false, false, false, false, false, false] rfl rfl (by kernel_rfl) (fun _ _ _ h => h) (Or.inl ⟨by rfl, ?_⟩) ?_ ?_
 rotate_left
 · intro w'
   go_simp
   with_reducible rfl
 rotate_left
 · simp only [Act.put, List.setIfInBounds_toArray, List.set_cons_zero, List.set_cons_succ, i64_w, i32_w]
   rfl
 refine take_ (i := 2) (N := some 21) (v := ?_) (a' := ?_) #[true, false, true, false, false, false, false] rfl rfl (by kernel_rfl) (fun _ _ _ h => h) (Or.inl ⟨by rfl, ?_⟩) hHeld ?_ ?_
 rotate_left
 · rintro w' ⟨s0, s1⟩
   go_simp
   with_reducible rfl
 rotate_left
 · simp only [Act.put, List.setIfInBounds_toArray, List.set_cons_zero, List.set_cons_succ, i64_w, i32_w]
   rfl
 refine join_ (σ := Value × Value × Nat) 2 #[true, true, true, true, true, false, false] (fun s_ => [(20, .int .u64 t191), (22, .agg #[.int .u64 t192, s_.1, s_.2.1]), (8, .pointer (some ⟨s_.2.2, 0, none⟩))]) (fun s_ w' => (w'.cell? ⟨gb190, 0, none⟩ = some (.int .i64 a0_0) ∧ w'.cell? ⟨gb190, 1, none⟩ = some (.slice A0_1 l0_1.length c0_1)) ∧ (Kd.R (Kd.int .u64) 76 w' w.heap.size (fun k_ => some k_ ≠ (s_.2.1 : Value).ownBlock) s_.1 t193) ∧ (Kd.R (Kd.int .u64) 76 w' w.heap.size (fun k_ => some k_ ≠ (s_.1 : Value).ownBlock) s_.2.1 t196) ∧ (w'.heap[gb190]? = some (.cells #[.int .i64 a0_0, .slice A0_1 l0_1.length c0_1] 24 (0, 0))) ∧ (w'.heap[s_.2.2]? = some (.cells #[.int .u64 0, .slice none 0 0, .slice none 0 0] 80 (0, 0))) ∧ (w.heap.size ≤ s_.2.2) ∧ (w.heap.size ≤ s_.2.2) ∧ (gb190 ≠ s_.2.2) ∧ (s_.2.2 ≠ gb190) ∧ (Below w.heap.size w w')) ?_ ?_
 rotate_left
 · intro hCont
   refine two_ (i := 1) (j := 4) (Ni := some 20) (Nj := some 8) #[true, true, true, false, false, false, false] #[true, false, true, false, true, false, false] rfl rfl rfl rfl (by kernel_rfl) (by decide) (by decide) (fun K hK => ?_) (fun K hK => ?_)
   · skip
     refine goes_ Tryd.func48 (by kernel_rfl) rfl #[.slice A1 l1.length c1] (by rfl) rfl rfl (by (try simp only [List.map_toArray, List.map_cons, List.map_nil]); first | done | rfl | (simp only [List.length_drop, List.length_take]; rfl)) ?_
     with_reducible refine (network_Of.calls k _ _ l1 t191 _ ?side1 ?side2 A4.out).mono ?_
     (case side1 => repeat (first | exact (Kd.C_below HR1.out HB.out) | (with_reducible refine Kd.C_alloc ?_ _) | (with_reducible refine Kd.C_drewN ?_ _) | (with_reducible refine Kd.C_drew ?_)))
     (case side2 => exact HC1.out)
     rintro e w' ⟨rfl, ⟨nd, rfl⟩⟩
     refine ⟨_, rfl, ?_⟩
     refine hK.out _ _ ⟨(blk_cell BK190.out 0).trans rfl, (blk_cell BK190.out 1).trans rfl⟩ (fun hHeld => ?_)
     clear hK K
     refine norm_ (a' := ?_) ?_ ?_
     rotate_left
     · show Act.put _ (some 20) _ = _
       simp only [Act.put, List.setIfInBounds_toArray, List.set_cons_zero, List.set_cons_succ, i64_w, i32_w]
       rfl
     refine two_ (i := 3) (j := 4) (Ni := some 22) (Nj := some 8) #[true, true, true, true, false, false, false] #[true, true, true, false, true, false, false] rfl rfl rfl rfl (by kernel_rfl) (by decide) (by decide) (fun K hK => ?_) (fun K hK => ?_)
     · skip
       refine goes_ Tryd.func49 (by kernel_rfl) rfl #[.agg #[.int .i64 a0_0, .slice A0_1 l0_1.length c0_1]] (by rfl) rfl rfl (by (try simp only [List.map_toArray, List.map_cons, List.map_nil]); first | done | rfl | (simp only [List.length_drop, List.length_take]; rfl)) ?_
       with_reducible refine (network_New.calls k a0_0 _ _ l0_1 t192 t193 t196 _ ?side1 ?side2 A5.out).mono ?_
       (case side1 => repeat (first | exact (Kd.C_below HR0_1.out (zB HB)) | (with_reducible refine Kd.C_alloc ?_ _) | (with_reducible refine Kd.C_drewN ?_ _) | (with_reducible refine Kd.C_drew ?_)))
       (case side2 => exact HC0_1.out)
       rintro e w8 ⟨v194, v197, rfl, ho0, ho1, hb⟩
       refine ⟨_, rfl, ?_⟩
       have n0_ := Aside0.mk (Kd.R_lower ho0 (below_size (zB HB)))
       have n1_ := Aside0.mk (Kd.R_lower ho1 (below_size (zB HB)))
       have n2_ := Aside0.mk (blk_below (g := gb190) (o := .cells #[.int .i64 a0_0, .slice A0_1 l0_1.length c0_1] 24 (0, 0)) (zK BK190) hb)
       have n3_ := Aside0.mk (below_step (zB HB) hb)
       clear BK190
       clear HB
       have HO195 := n0_
       have HO198 := n1_
       have BK190 := n2_
       have HB := n3_
       clear n0_ n1_ n2_ n3_
       (try clear hb)
       (try clear hb2)
       (try clear hk)
       (try clear hi)
       (try clear ho0)
       (try clear ho1)
       refine hK.out _ _ ⟨(blk_cell BK190.out 0).trans rfl, (blk_cell BK190.out 1).trans rfl⟩ (fun hHeld => ?_)
       clear hK K
       refine norm_ (a' := ?_) ?_ ?_
       rotate_left
       · show Act.put _ (some 22) _ = _
         simp only [Act.put, List.setIfInBounds_toArray, List.set_cons_zero, List.set_cons_succ, i64_w, i32_w]
         rfl
       refine one_ (i := 4) (N := some 8) #[true, true, true, true, true, false, false] rfl rfl (by kernel_rfl) (by decide) (fun K hK => ?_)
       refine box_step ?hg (N := 8) ?hd (cs := #[.int .u64 0, .slice none 0 0, .slice none 0 0]) (t := 80) ?hr ?_; (case hd => rfl); (case hg => rfl); (case hr => first | (go_simp; done) | (go_simp; rfl))
       intro gb199 hg w9 hbox hb
       have n0_ := Aside0.mk (Kd.R_below (zR HO195) hb)
       have n1_ := Aside0.mk (Kd.R_below (zR HO198) hb)
       have n2_ := Aside0.mk (blk_below (g := gb190) (o := .cells #[.int .i64 a0_0, .slice A0_1 l0_1.length c0_1] 24 (0, 0)) (zK BK190) hb)
       have n3_ := Aside0.mk (below_step (zB HB) hb)
       have n4_ := Aside0.mk (hbox)
       have n5_ := Aside0.mk ((by rw [hg]; exact (below_size (zB HB)) : w.heap.size ≤ gb199))
       have n6_ := Aside0.mk ((by rw [hg]; exact (below_size (zB HB)) : w.heap.size ≤ gb199))
       have n7_ := Aside0.mk ((by rw [hg]; exact Nat.ne_of_lt (blk_lt (g := gb190) (o := .cells #[.int .i64 a0_0, .slice A0_1 l0_1.length c0_1] 24 (0, 0)) (zK BK190)) : gb190 ≠ gb199))
       have n8_ := Aside0.mk ((by rw [hg]; exact Nat.ne_of_gt (blk_lt (g := gb190) (o := .cells #[.int .i64 a0_0, .slice A0_1 l0_1.length c0_1] 24 (0, 0)) (zK BK190)) : gb199 ≠ gb190))
       clear HO195
       clear HO198
       clear BK190
       clear HB
       have HO195 := n0_
       have HO198 := n1_
       have BK190 := n2_
       have HB := n3_
       have BK199 := n4_
       have GW199 := n5_
       have GE199 := n6_
       have NB190_199 := n7_
       have NB199_190 := n8_
       clear n0_ n1_ n2_ n3_ n4_ n5_ n6_ n7_ n8_
       clear hb hbox hg
       refine hK.out _ _ ⟨(blk_cell BK190.out 0).trans rfl, (blk_cell BK190.out 1).trans rfl⟩ (fun hHeld => ?_)
       clear hK K
       refine norm_ (a' := ?_) ?_ ?_
       rotate_left
       · show Act.put _ (some 8) _ = _
         simp only [Act.put, List.setIfInBounds_toArray, List.set_cons_zero, List.set_cons_succ, i64_w, i32_w]
         rfl
       exact norm_ (by simp only [putAll, Act.put, List.setIfInBounds_toArray, List.set_cons_zero, List.set_cons_succ]) (hCont (v194, v197, gb199) _ ⟨hHeld, (zR HO195), (zR HO198), (zK BK190), (zK BK199), GW199.out, GE199.out, NB190_199.out, NB199_190.out, (zB HB)⟩)
     · skip
       refine box_step ?hg (N := 8) ?hd (cs := #[.int .u64 0, .slice none 0 0, .slice none 0 0]) (t := 80) ?hr ?_; (case hd => rfl); (case hg => rfl); (case hr => first | (go_simp; done) | (go_simp; rfl))
       intro gb199 hg w8 hbox hb
       have n0_ := Aside0.mk (blk_below (g := gb190) (o := .cells #[.int .i64 a0_0, .slice A0_1 l0_1.length c0_1] 24 (0, 0)) (zK BK190) hb)
       have n1_ := Aside0.mk (below_step (zB HB) hb)
       have n2_ := Aside0.mk (hbox)
       have n3_ := Aside0.mk ((by rw [hg]; exact (below_size (zB HB)) : w.heap.size ≤ gb199))
       have n4_ := Aside0.mk ((by rw [hg]; exact (below_size (zB HB)) : w.heap.size ≤ gb199))
       have n5_ := Aside0.mk ((by rw [hg]; exact Nat.ne_of_lt (blk_lt (g := gb190) (o := .cells #[.int .i64 a0_0, .slice A0_1 l0_1.length c0_1] 24 (0, 0)) (zK BK190)) : gb190 ≠ gb199))
       have n6_ := Aside0.mk ((by rw [hg]; exact Nat.ne_of_gt (blk_lt (g := gb190) (o := .cells #[.int .i64 a0_0, .slice A0_1 l0_1.length c0_1] 24 (0, 0)) (zK BK190)) : gb199 ≠ gb190))
       clear BK190
       clear HB
       have BK190 := n0_
       have HB := n1_
       have BK199 := n2_
       have GW199 := n3_
       have GE199 := n4_
       have NB190_199 := n5_
       have NB199_190 := n6_
       clear n0_ n1_ n2_ n3_ n4_ n5_ n6_
       clear hb hbox hg
       refine hK.out _ _ ⟨(blk_cell BK190.out 0).trans rfl, (blk_cell BK190.out 1).trans rfl⟩ (fun hHeld => ?_)
       clear hK K
       refine norm_ (a' := ?_) ?_ ?_
       rotate_left
       · show Act.put _ (some 8) _ = _
         simp only [Act.put, List.setIfInBounds_toArray, List.set_cons_zero, List.set_cons_succ, i64_w, i32_w]
         rfl
       refine one_ (i := 3) (N := some 22) #[true, true, true, true, true, false, false] rfl rfl (by kernel_rfl) (by decide) (fun K hK => ?_)
       refine goes_ Tryd.func49 (by kernel_rfl) rfl #[.agg #[.int .i64 a0_0, .slice A0_1 l0_1.length c0_1]] (by rfl) rfl rfl (by (try simp only [List.map_toArray, List.map_cons, List.map_nil]); first | done | rfl | (simp only [List.length_drop, List.length_take]; rfl)) ?_
       with_reducible refine (network_New.calls k a0_0 _ _ l0_1 t192 t193 t196 _ ?side1 ?side2 A5.out).mono ?_
       (case side1 => repeat (first | exact (Kd.C_below HR0_1.out HB.out) | (with_reducible refine Kd.C_alloc ?_ _) | (with_reducible refine Kd.C_drewN ?_ _) | (with_reducible refine Kd.C_drew ?_)))
       (case side2 => exact HC0_1.out)
       rintro e w9 ⟨v194, v197, rfl, ho0, ho1, hb⟩
       refine ⟨_, rfl, ?_⟩
       have n0_ := Aside0.mk (Kd.R_lower ho0 (below_size (zB HB)))
       have n1_ := Aside0.mk (Kd.R_lower ho1 (below_size (zB HB)))
       have n2_ := Aside0.mk (blk_below (g := gb190) (o := .cells #[.int .i64 a0_0, .slice A0_1 l0_1.length c0_1] 24 (0, 0)) (zK BK190) hb)
       have n3_ := Aside0.mk (blk_below (g := gb199) (o := .cells #[.int .u64 0, .slice none 0 0, .slice none 0 0] 80 (0, 0)) (zK BK199) hb)
       have n4_ := Aside0.mk (below_step (zB HB) hb)
       clear BK190
       clear BK199
       clear HB
       have HO195 := n0_
       have HO198 := n1_
       have BK190 := n2_
       have BK199 := n3_
       have HB := n4_
       clear n0_ n1_ n2_ n3_ n4_
       (try clear hb)
       (try clear hb2)
       (try clear hk)
       (try clear hi)
       (try clear ho0)
       (try clear ho1)
       refine hK.out _ _ ⟨(blk_cell BK190.out 0).trans rfl, (blk_cell BK190.out 1).trans rfl⟩ (fun hHeld => ?_)
       clear hK K
       refine norm_ (a' := ?_) ?_ ?_
       rotate_left
       · show Act.put _ (some 22) _ = _
         simp only [Act.put, List.setIfInBounds_toArray, List.set_cons_zero, List.set_cons_succ, i64_w, i32_w]
         rfl
       exact norm_ (by simp only [putAll, Act.put, List.setIfInBounds_toArray, List.set_cons_zero, List.set_cons_succ]) (hCont (v194, v197, gb199) _ ⟨hHeld, (zR HO195), (zR HO198), (zK BK190), (zK BK199), GW199.out, GE199.out, NB190_199.out, NB199_190.out, (zB HB)⟩)
   · skip
     refine box_step ?hg (N := 8) ?hd (cs := #[.int .u64 0, .slice none 0 0, .slice none 0 0]) (t := 80) ?hr ?_; (case hd => rfl); (case hg => rfl); (case hr => first | (go_simp; done) | (go_simp; rfl))
     intro gb199 hg w8 hbox hb
     have n0_ := Aside0.mk (blk_below (g := gb190) (o := .cells #[.int .i64 a0_0, .slice A0_1 l0_1.length c0_1] 24 (0, 0)) (zK BK190) hb)
     have n1_ := Aside0.mk (below_step (zB HB) hb)
     have n2_ := Aside0.mk (hbox)
     have n3_ := Aside0.mk ((by rw [hg]; exact (below_size (zB HB)) : w.heap.size ≤ gb199))
     have n4_ := Aside0.mk ((by rw [hg]; exact (below_size (zB HB)) : w.heap.size ≤ gb199))
     have n5_ := Aside0.mk ((by rw [hg]; exact Nat.ne_of_lt (blk_lt (g := gb190) (o := .cells #[.int .i64 a0_0, .slice A0_1 l0_1.length c0_1] 24 (0, 0)) (zK BK190)) : gb190 ≠ gb199))
     have n6_ := Aside0.mk ((by rw [hg]; exact Nat.ne_of_gt (blk_lt (g := gb190) (o := .cells #[.int .i64 a0_0, .slice A0_1 l0_1.length c0_1] 24 (0, 0)) (zK BK190)) : gb199 ≠ gb190))
     clear BK190
     clear HB
     have BK190 := n0_
     have HB := n1_
     have BK199 := n2_
     have GW199 := n3_
     have GE199 := n4_
     have NB190_199 := n5_
     have NB199_190 := n6_
     clear n0_ n1_ n2_ n3_ n4_ n5_ n6_
     clear hb hbox hg
     refine hK.out _ _ ⟨(blk_cell BK190.out 0).trans rfl, (blk_cell BK190.out 1).trans rfl⟩ (fun hHeld => ?_)
     clear hK K
     refine norm_ (a' := ?_) ?_ ?_
     rotate_left
     · show Act.put _ (some 8) _ = _
       simp only [Act.put, List.setIfInBounds_toArray, List.set_cons_zero, List.set_cons_succ, i64_w, i32_w]
       rfl
     refine one_ (i := 1) (N := some 20) #[true, true, true, false, true, false, false] rfl rfl (by kernel_rfl) (by decide) (fun K hK => ?_)
     refine goes_ Tryd.func48 (by kernel_rfl) rfl #[.slice A1 l1.length c1] (by rfl) rfl rfl (by (try simp only [List.map_toArray, List.map_cons, List.map_nil]); first | done | rfl | (simp only [List.length_drop, List.length_take]; rfl)) ?_
     with_reducible refine (network_Of.calls k _ _ l1 t191 _ ?side1 ?side2 A4.out).mono ?_
     (case side1 => repeat (first | exact (Kd.C_below HR1.out HB.out) | (with_reducible refine Kd.C_alloc ?_ _) | (with_reducible refine Kd.C_drewN ?_ _) | (with_reducible refine Kd.C_drew ?_)))
     (case side2 => exact HC1.out)
     rintro e w' ⟨rfl, ⟨nd, rfl⟩⟩
     refine ⟨_, rfl, ?_⟩
     refine hK.out _ _ ⟨(blk_cell BK190.out 0).trans rfl, (blk_cell BK190.out 1).trans rfl⟩ (fun hHeld => ?_)
     clear hK K
     refine norm_ (a' := ?_) ?_ ?_
     rotate_left
     · show Act.put _ (some 20) _ = _
       simp only [Act.put, List.setIfInBounds_toArray, List.set_cons_zero, List.set_cons_succ, i64_w, i32_w]
       rfl
     refine one_ (i := 3) (N := some 22) #[true, true, true, true, true, false, false] rfl rfl (by kernel_rfl) (by decide) (fun K hK => ?_)
     refine goes_ Tryd.func49 (by kernel_rfl) rfl #[.agg #[.int .i64 a0_0, .slice A0_1 l0_1.length c0_1]] (by rfl) rfl rfl (by (try simp only [List.map_toArray, List.map_cons, List.map_nil]); first | done | rfl | (simp only [List.length_drop, List.length_take]; rfl)) ?_
     with_reducible refine (network_New.calls k a0_0 _ _ l0_1 t192 t193 t196 _ ?side1 ?side2 A5.out).mono ?_
     (case side1 => repeat (first | exact (Kd.C_below HR0_1.out (zB HB)) | (with_reducible refine Kd.C_alloc ?_ _) | (with_reducible refine Kd.C_drewN ?_ _) | (with_reducible refine Kd.C_drew ?_)))
     (case side2 => exact HC0_1.out)
     rintro e w9 ⟨v194, v197, rfl, ho0, ho1, hb⟩
     refine ⟨_, rfl, ?_⟩
     have n0_ := Aside0.mk (Kd.R_lower ho0 (below_size (zB HB)))
     have n1_ := Aside0.mk (Kd.R_lower ho1 (below_size (zB HB)))
     have n2_ := Aside0.mk (blk_below (g := gb190) (o := .cells #[.int .i64 a0_0, .slice A0_1 l0_1.length c0_1] 24 (0, 0)) (zK BK190) hb)
     have n3_ := Aside0.mk (blk_below (g := gb199) (o := .cells #[.int .u64 0, .slice none 0 0, .slice none 0 0] 80 (0, 0)) (zK BK199) hb)
     have n4_ := Aside0.mk (below_step (zB HB) hb)
     clear BK190
     clear BK199
     clear HB
     have HO195 := n0_
     have HO198 := n1_
     have BK190 := n2_
     have BK199 := n3_
     have HB := n4_
     clear n0_ n1_ n2_ n3_ n4_
     (try clear hb)
     (try clear hb2)
     (try clear hk)
     (try clear hi)
     (try clear ho0)
     (try clear ho1)
     refine hK.out _ _ ⟨(blk_cell BK190.out 0).trans rfl, (blk_cell BK190.out 1).trans rfl⟩ (fun hHeld => ?_)
     clear hK K
     refine norm_ (a' := ?_) ?_ ?_
     rotate_left
     · show Act.put _ (some 22) _ = _
       simp only [Act.put, List.setIfInBounds_toArray, List.set_cons_zero, List.set_cons_succ, i64_w, i32_w]
       rfl
     exact norm_ (by simp only [putAll, Act.put, List.setIfInBounds_toArray, List.set_cons_zero, List.set_cons_succ]) (hCont (v194, v197, gb199) _ ⟨hHeld, (zR HO195), (zR HO198), (zK BK190), (zK BK199), GW199.out, GE199.out, NB190_199.out, NB199_190.out, (zB HB)⟩)
 rintro ⟨v194, v197, gb199⟩ w10 ⟨hS_, h0_, h1_, h2_, h3_, h4_, h5_, h6_, h7_, h8_⟩
 have n0_ : Aside0 (Kd.R (Kd.int .u64) 76 w10 w.heap.size (fun k_ => some k_ ≠ (v197 : Value).ownBlock) v194 t193) := ⟨h0_⟩
 have n1_ : Aside0 (Kd.R (Kd.int .u64) 76 w10 w.heap.size (fun k_ => some k_ ≠ (v194 : Value).ownBlock) v197 t196) := ⟨h1_⟩
 have n2_ : Aside0 (w10.heap[gb190]? = some (.cells #[.int .i64 a0_0, .slice A0_1 l0_1.length c0_1] 24 (0, 0))) := ⟨h2_⟩
 have n3_ : Aside0 (w10.heap[gb199]? = some (.cells #[.int .u64 0, .slice none 0 0, .slice none 0 0] 80 (0, 0))) := ⟨h3_⟩
 have n4_ : Aside0 (w.heap.size ≤ gb199) := ⟨h4_⟩
 have n5_ : Aside0 (w.heap.size ≤ gb199) := ⟨h5_⟩
 have n6_ : Aside0 (gb190 ≠ gb199) := ⟨h6_⟩
 have n7_ : Aside0 (gb199 ≠ gb190) := ⟨h7_⟩
 have n8_ : Aside0 (Below w.heap.size w w10) := ⟨h8_⟩
 clear BK190
 clear HB
 clear h0_ h1_ h2_ h3_ h4_ h5_ h6_ h7_ h8_
 have HO195 := n0_
 have HO198 := n1_
 have BK190 := n2_
 have BK199 := n3_
 have GW199 := n4_
 have GE199 := n5_
 have NB190_199 := n6_
 have NB199_190 := n7_
 have HB := n8_
 clear n0_ n1_ n2_ n3_ n4_ n5_ n6_ n7_ n8_
 have hHeld : w10.cell? ⟨gb190, 0, none⟩ = some (.int .i64 a0_0) ∧ w10.cell? ⟨gb190, 1, none⟩ = some (.slice A0_1 l0_1.length c0_1) := hS_
 obtain ⟨Ao12, co12, eo12⟩ := Kd.R_slice HO195.out
 (first | subst eo12 | (injection eo12 with f1_ f2_ f3_; have f4_ := f1_.symm; have f5_ := f3_.symm; clear f1_ f2_ f3_; subst f4_; subst f5_))
 obtain ⟨Ao14, co14, eo14⟩ := Kd.R_slice HO198.out
 (first | subst eo14 | (injection eo14 with f1_ f2_ f3_; have f4_ := f1_.symm; have f5_ := f3_.symm; clear f1_ f2_ f3_; subst f4_; subst f5_))
 refine norm_ (a' := ?_) ?_ ?_
 rotate_left
 · simp only [putAll, Act.put, List.setIfInBounds_toArray, List.set_cons_zero, List.set_cons_succ]
   rfl
 refine pure_ (i := 5) (N := some 7) (v := ?_) (a' := ?_) #[true, true, true, true, true, true, false] rfl rfl (by kernel_rfl) (fun _ _ _ h => h) (Or.inl ⟨by rfl, ?_⟩) ?_ ?_
 rotate_left
 · intro w'
   go_simp
   with_reducible rfl
 rotate_left
 · simp only [Act.put, List.setIfInBounds_toArray, List.set_cons_zero, List.set_cons_succ, i64_w, i32_w]
   rfl
 refine one_ (i := 6) (N := none) #[true, true, true, true, true, true, true] rfl rfl (by kernel_rfl) (by decide) (fun K hK => ?_)
 have hs11 : w10.cell? ⟨gb199, 0, none⟩ = some (.int .u64 0) := (blk_cell BK199.out 0).trans rfl
 have hfs11 := blk_frozen BK199.out 0
 have hns11_0 := NB190_199.out
 have hms11_0 := NB199_190.out
 have hs13 : w10.cell? ⟨gb199, 1, none⟩ = some (.slice none 0 0) := (blk_cell BK199.out 1).trans rfl
 have hfs13 := blk_frozen BK199.out 1
 have hns13_0 := NB190_199.out
 have hms13_0 := NB199_190.out
 have hs15 : w10.cell? ⟨gb199, 2, none⟩ = some (.slice none 0 0) := (blk_cell BK199.out 2).trans rfl
 have hfs15 := blk_frozen BK199.out 2
 have hns15_0 := NB190_199.out
 have hms15_0 := NB199_190.out
 refine skip_ (w1 := ?_) (by rfl) rfl ?_ ?_
 rotate_left
 · go_simp
   rfl
 refine hK.out _ _ ⟨((cell_far (p := ⟨gb199, _, none⟩) NB190_199.out _).trans (((cell_far (p := ⟨gb199, _, none⟩) NB190_199.out _).trans (((cell_far (p := ⟨gb199, _, none⟩) NB190_199.out _).trans (hHeld.1)))))), ((cell_far (p := ⟨gb199, _, none⟩) NB190_199.out _).trans (((cell_far (p := ⟨gb199, _, none⟩) NB190_199.out _).trans (((cell_far (p := ⟨gb199, _, none⟩) NB190_199.out _).trans (hHeld.2))))))⟩ (fun hHeld => ?_)
 clear hK K
 refine done_ (by kernel_rfl) ?_
 have hnb16 := NB190_199.out
 have hnc16 := NB199_190.out
 have hcz17_0 : w10.cell? ⟨gb190, 0, none⟩ = some (.int .i64 a0_0) := (blk_cell BK190.out 0).trans rfl
 have hcz17_1 : w10.cell? ⟨gb190, 1, none⟩ = some (.slice A0_1 l0_1.length c0_1) := (blk_cell BK190.out 1).trans rfl
 have hfz17_0 := blk_frozen BK190.out 0
 have hfz17_1 := blk_frozen BK190.out 1
 try go_wp2
 go_loopg [9, 26] k (fun kq v9 v26 w' => ∃ (x9_1 : List (List (S42))) (x26_1 : Int), v26 = .int .i64 x26_1 ∧ Aside0 (enforce_duties.l0 kq l1 a2 t191 x9_1 l0_1 (l0_1.length : Int) x26_1 a0_0 l0_1 t192 t193 t196 = some r) ∧ Aside0 (kq ≤ k) ∧ Aside0 (Kd.S (Kd.slice 42 k42) 22 w' w.heap.size (fun _ => True) v9 x9_1) ∧ Aside0 (Kd.R (Kd.int .u64) 76 w' w.heap.size (fun k_ => some k_ ≠ ((.slice Ao14 t196.length co14) : Value).ownBlock) (.slice Ao12 t193.length co12) t193) ∧ Aside0 (Kd.R (Kd.int .u64) 76 w' w.heap.size (fun k_ => some k_ ≠ ((.slice Ao12 t193.length co12) : Value).ownBlock) (.slice Ao14 t196.length co14) t196) ∧ Aside0 (w'.heap[gb190]? = some (.cells #[.int .i64 a0_0, (.slice A0_1 l0_1.length c0_1)] 24 (0, 0))) ∧ Aside0 (w'.heap[gb199]? = some (.cells #[.int .u64 t192, (.slice Ao12 t193.length co12), (.slice Ao14 t196.length co14)] 80 (0, 0))) ∧ Aside0 (Below w.heap.size w w'))
 case atStart => exact ⟨(([] : List (List (S42)))), (0), (by first | rfl | (simp; done) | (simp [*]; done)), H', ⟨Nat.le_refl _⟩, ⟨by first | exact Kd.S_nil _ _ _ _ _ | exact Kd.N_nil _ _ _ _ _ | exact Kd.V_nil _ _ _ _ _ | exact Kd.Q_nil _ _ _ _ _ | exact Kd.R_nil _ _ _ _ _ | exact Kd.R_nil _ _ _ 0 _⟩, ⟨by (with_reducible repeat (first | apply Kd.R_alloc | apply Kd.R_drewN | apply Kd.R_drew)); exact Kd.R_mono (Kd.R_far (p := ⟨gb199, 2, none⟩) (Kd.R_far (p := ⟨gb199, 1, none⟩) (Kd.R_far (p := ⟨gb199, 0, none⟩) (Kd.R_types HO195.out BK199.out (by decide)) (fun _ hk => hk.2) (.int .u64 t192)) (fun _ hk => hk.2) (.slice Ao12 t193.length co12)) (fun _ hk => hk.2) (.slice Ao14 t196.length co14)) (fun _ hk => hk.1)⟩, ⟨by (with_reducible repeat (first | apply Kd.R_alloc | apply Kd.R_drewN | apply Kd.R_drew)); exact Kd.R_mono (Kd.R_far (p := ⟨gb199, 2, none⟩) (Kd.R_far (p := ⟨gb199, 1, none⟩) (Kd.R_far (p := ⟨gb199, 0, none⟩) (Kd.R_types HO198.out BK199.out (by decide)) (fun _ hk => hk.2) (.int .u64 t192)) (fun _ hk => hk.2) (.slice Ao12 t193.length co12)) (fun _ hk => hk.2) (.slice Ao14 t196.length co14)) (fun _ hk => hk.1)⟩, ⟨by (with_reducible repeat (first | refine blk_drewN ?_ _ | refine blk_drew ?_ | refine blk_alloc ?_ _)); refine blk_far ?_ NB190_199.out _; (with_reducible repeat (first | refine blk_drewN ?_ _ | refine blk_drew ?_ | refine blk_alloc ?_ _)); refine blk_far ?_ NB190_199.out _; (with_reducible repeat (first | refine blk_drewN ?_ _ | refine blk_drew ?_ | refine blk_alloc ?_ _)); refine blk_far ?_ NB190_199.out _; (with_reducible repeat (first | refine blk_drewN ?_ _ | refine blk_drew ?_ | refine blk_alloc ?_ _)); exact BK190.out⟩, ⟨by (with_reducible repeat (first | refine blk_drewN ?_ _ | refine blk_drew ?_ | refine blk_alloc ?_ _)); refine blk_put (cs := #[.int .u64 t192, .slice Ao12 t193.length co12, .slice none 0 0]) ?_ 2 _ rfl; (with_reducible repeat (first | refine blk_drewN ?_ _ | refine blk_drew ?_ | refine blk_alloc ?_ _)); refine blk_put (cs := #[.int .u64 t192, .slice none 0 0, .slice none 0 0]) ?_ 1 _ rfl; (with_reducible repeat (first | refine blk_drewN ?_ _ | refine blk_drew ?_ | refine blk_alloc ?_ _)); refine blk_put (cs := #[.int .u64 0, .slice none 0 0, .slice none 0 0]) ?_ 0 _ rfl; (with_reducible repeat (first | refine blk_drewN ?_ _ | refine blk_drew ?_ | refine blk_alloc ?_ _)); exact BK199.out⟩, ⟨zB HB⟩⟩
 case round =>
  clear H'
  try clear c1
  try clear p2
  try clear c4
  try clear c5
  try clear c16
  try clear hcz17_0
  try clear hcz17_1
  try clear hfz17_0
  try clear hfz17_1
  obtain ⟨x9_1, x26_1, rfl, HA, HK1, HO_9, HO_200001, HO_200002, BK190, BK199, HB⟩ := hrel
  cases gk with
  | zero => exact absurd HA.out (by simp [enforce_duties.l0])
  | succ k1 =>
   have H := HA.out
   clear HA
   simp only [enforce_duties.l0] at H
   by_cases c18 : x26_1 < (l0_1.length : Int)
   · rw [if_pos c18] at H
     have c18b0 : decide (x26_1 < (l0_1.length : Int)) = true := decide_eq_true c18
     clear c18
     by_cases c19 : 0 ≤ x26_1
     · rw [if_pos c19] at H
       have c19b0 : decide (0 ≤ x26_1) = true := decide_eq_true c19
       clear c19
       by_cases c20 : x26_1 < (l0_1.length : Int)
       · rw [if_pos c20] at H
         have c20b0 : decide (x26_1 < (l0_1.length : Int)) = true := decide_eq_true c20
         clear c20
         replace H := Option.bind_eq_some_iff.mp H
         obtain ⟨t202, A210, H⟩ := H
         replace H : (if t202 = true then ((network_Set_Has.f t191 ((rd_T42 l0_1 x26_1).f1)).bind fun t203 => (if t203 = true then (if x9_1.length < 5864062014805 then (enforce_duties.l0 k1 l1 a2 t191 (x9_1 ++ [(([(⟨(rd_T42 l0_1 x26_1).f0, (rd_T42 l0_1 x26_1).f1⟩ : S42)] : List (S42)))]) l0_1 (l0_1.length : Int) (wrap64 (x26_1 + 1)) a0_0 l0_1 t192 t193 t196) else (none)) else (enforce_duties.l0 k1 l1 a2 t191 x9_1 l0_1 (l0_1.length : Int) (wrap64 (x26_1 + 1)) a0_0 l0_1 t192 t193 t196))) else (enforce_duties.l0 k1 l1 a2 t191 x9_1 l0_1 (l0_1.length : Int) (wrap64 (x26_1 + 1)) a0_0 l0_1 t192 t193 t196)) = some r := H
         have A21 := Aside0.mk A210
         clear A210
         by_cases c22 : t202 = true
         · subst c22
           have H1 : ((network_Set_Has.f t191 ((rd_T42 l0_1 x26_1).f1)).bind fun t203 => (if t203 = true then (if x9_1.length < 5864062014805 then (enforce_duties.l0 k1 l1 a2 t191 (x9_1 ++ [(([(⟨(rd_T42 l0_1 x26_1).f0, (rd_T42 l0_1 x26_1).f1⟩ : S42)] : List (S42)))]) l0_1 (l0_1.length : Int) (wrap64 (x26_1 + 1)) a0_0 l0_1 t192 t193 t196) else (none)) else (enforce_duties.l0 k1 l1 a2 t191 x9_1 l0_1 (l0_1.length : Int) (wrap64 (x26_1 + 1)) a0_0 l0_1 t192 t193 t196))) = some r := by rw [if_pos rfl] at H; exact H
           clear H
           have H := H1
           clear H1
           replace H := Option.bind_eq_some_iff.mp H
           obtain ⟨t203, A230, H⟩ := H
           replace H : (if t203 = true then (if x9_1.length < 5864062014805 then (enforce_duties.l0 k1 l1 a2 t191 (x9_1 ++ [(([(⟨(rd_T42 l0_1 x26_1).f0, (rd_T42 l0_1 x26_1).f1⟩ : S42)] : List (S42)))]) l0_1 (l0_1.length : Int) (wrap64 (x26_1 + 1)) a0_0 l0_1 t192 t193 t196) else (none)) else (enforce_duties.l0 k1 l1 a2 t191 x9_1 l0_1 (l0_1.length : Int) (wrap64 (x26_1 + 1)) a0_0 l0_1 t192 t193 t196)) = some r := H
           have A23 := Aside0.mk A230
           clear A230
           by_cases c24 : t203 = true
           · subst c24
             have H1 : (if x9_1.length < 5864062014805 then (enforce_duties.l0 k1 l1 a2 t191 (x9_1 ++ [(([(⟨(rd_T42 l0_1 x26_1).f0, (rd_T42 l0_1 x26_1).f1⟩ : S42)] : List (S42)))]) l0_1 (l0_1.length : Int) (wrap64 (x26_1 + 1)) a0_0 l0_1 t192 t193 t196) else (none)) = some r := by rw [if_pos rfl] at H; exact H
             clear H
             have H := H1
             clear H1
             obtain ⟨y204, hy204⟩ : ∃ y_ : List (S42), y_ = (([(⟨(rd_T42 l0_1 x26_1).f0, (rd_T42 l0_1 x26_1).f1⟩ : S42)] : List (S42))) := ⟨_, rfl⟩
             replace H : (if x9_1.length < 5864062014805 then (enforce_duties.l0 k1 l1 a2 t191 (x9_1 ++ [y204]) l0_1 (l0_1.length : Int) (wrap64 (x26_1 + 1)) a0_0 l0_1 t192 t193 t196) else (none)) = some r := by first | (rw [hy204]; with_reducible exact H) | (have H2_ := (Option.bind_some _ _).symm.trans H; rw [hy204]; with_reducible exact H2_) | (have H2_ := (Option.bind_some _ _).symm.trans H; with_reducible exact H2_) | with_reducible exact H | (rw [hy204]; exact H) | exact H
             have Ny204 := Aside0.mk hy204
             clear hy204
             by_cases c25 : x9_1.length < 5864062014805
             · rw [if_pos c25] at H
               have LMc25 := Aside0.mk c25
               clear c25
               obtain ⟨y207, hy207⟩ : ∃ y_ : List (List (S42)), y_ = (x9_1 ++ [y204]) := ⟨_, rfl⟩
               replace H : (enforce_duties.l0 k1 l1 a2 t191 y207 l0_1 (l0_1.length : Int) (wrap64 (x26_1 + 1)) a0_0 l0_1 t192 t193 t196) = some r := by first | (rw [hy207]; with_reducible exact H) | (have H2_ := (Option.bind_some _ _).symm.trans H; rw [hy207]; with_reducible exact H2_) | (have H2_ := (Option.bind_some _ _).symm.trans H; with_reducible exact H2_) | with_reducible exact H | (rw [hy207]; exact H) | exact H
               have Ny207 := Aside0.mk hy207
               clear hy207
               have H' := Aside0.mk H
               clear H
               have p200 : 0 ≤ (x26_1 : Int) := of_decide_eq_true (by first | (with_reducible assumption) | assumption)
               have q200 : x26_1 < (l0_1.length : Int) := of_decide_eq_true (by first | (with_reducible assumption) | assumption)
               obtain ⟨ad200, e200, hx200_0, hx200_1⟩ := at_T42 HR0_1.out x26_1 p200 q200
               cases e200
               replace hx200_0 := (HB.out.cell (World.block_lt_of_cell? w _ hx200_0)).trans hx200_0
               replace hx200_1 := (HB.out.cell (World.block_lt_of_cell? w _ hx200_1)).trans hx200_1
               replace p200 := eq_true p200
               replace q200 := eq_true q200
               go_wp2_with (first | ((with_reducible refine gate_dst (N := 11) rfl ?_); refine box_event ?hg (N := 11) ?hd (cs := #[.int .i64 0, .int .i64 0]) (t := 42) ?hr ?_; (case hd => rfl); (case hg => rfl); (case hr => first | (go_simp; done) | (go_simp; rfl)); intro gb201 hg w26 hbox hb; have n0_ := Aside0.mk (Kd.S_below (Kd.S_elderB (zS HO_9) gb201 (Nat.le_of_eq hg.symm)) hb); have n1_ := Aside0.mk (Kd.R_below (zR HO_200001) hb); have n2_ := Aside0.mk (Kd.R_below (zR HO_200002) hb); have n3_ := Aside0.mk (blk_below (g := gb190) (o := .cells #[.int .i64 a0_0, .slice (some ad200) l0_1.length c0_1] 24 (0, 0)) (zK BK190) hb); have n4_ := Aside0.mk (blk_below (g := gb199) (o := .cells #[.int .u64 t192, .slice Ao12 t193.length co12, .slice Ao14 t196.length co14] 80 (0, 0)) (zK BK199) hb); have n5_ := Aside0.mk (below_step (zB HB) hb); have n6_ := Aside0.mk (hbox); have n7_ := Aside0.mk ((by rw [hg]; exact (below_size (zB HB)) : w.heap.size ≤ gb201)); have n8_ := Aside0.mk ((by rw [hg]; exact (below_size (zB HB)) : w.heap.size ≤ gb201)); have n9_ := Aside0.mk ((by rw [hg]; exact Nat.ne_of_lt (blk_lt (g := gb190) (o := .cells #[.int .i64 a0_0, .slice (some ad200) l0_1.length c0_1] 24 (0, 0)) (zK BK190)) : gb190 ≠ gb201)); have n10_ := Aside0.mk ((by rw [hg]; exact Nat.ne_of_gt (blk_lt (g := gb190) (o := .cells #[.int .i64 a0_0, .slice (some ad200) l0_1.length c0_1] 24 (0, 0)) (zK BK190)) : gb201 ≠ gb190)); have n11_ := Aside0.mk ((by rw [hg]; exact Nat.ne_of_lt (blk_lt (g := gb199) (o := .cells #[.int .u64 t192, .slice Ao12 t193.length co12, .slice Ao14 t196.length co14] 80 (0, 0)) (zK BK199)) : gb199 ≠ gb201)); have n12_ := Aside0.mk ((by rw [hg]; exact Nat.ne_of_gt (blk_lt (g := gb199) (o := .cells #[.int .u64 t192, .slice Ao12 t193.length co12, .slice Ao14 t196.length co14] 80 (0, 0)) (zK BK199)) : gb201 ≠ gb199)); clear HO_9; clear HO_200001; clear HO_200002; clear BK190; clear BK199; clear HB; have HO_9 := n0_; have HO_200001 := n1_; have HO_200002 := n2_; have BK190 := n3_; have BK199 := n4_; have HB := n5_; have BK201 := n6_; have GW201 := n7_; have GE201 := n8_; have NB190_201 := n9_; have NB201_190 := n10_; have NB199_201 := n11_; have NB201_199 := n12_; clear n0_ n1_ n2_ n3_ n4_ n5_ n6_ n7_ n8_ n9_ n10_ n11_ n12_; clear hb hbox hg; have hnb27 := NB201_190.out; have hnc27 := NB190_201.out; have hnb28 := NB201_199.out; have hnc28 := NB199_201.out; have hcz29_0 : w26.cell? ⟨gb201, 0, none⟩ = some (.int .i64 0) := (blk_cell BK201.out 0).trans rfl; have hcz29_1 : w26.cell? ⟨gb201, 1, none⟩ = some (.int .i64 0) := (blk_cell BK201.out 1).trans rfl; have hfz29_0 := blk_frozen BK201.out 0; have hfz29_1 := blk_frozen BK201.out 1) | ((with_reducible refine gate_callee (f := 77) rfl ?_); refine goesL_ (some 33) rfl rfl Tryd.func77 (by kernel_rfl) rfl #[.int .u64 t191, .int .i64 ((rd_T42 l0_1 x26_1).f0)] rfl (by (try simp only [List.map_toArray, List.map_cons, List.map_nil]); first | done | rfl | (simp only [List.length_drop, List.length_take]; rfl)) ?_; (with_reducible refine (network_Set_Has.calls t191 ((rd_T42 l0_1 x26_1).f0) true _ A21.out).mono ?_); rintro e w' ⟨rfl, ⟨nd, rfl⟩⟩; refine ⟨_, rfl, ?_⟩) | (go_at_call 77; (with_reducible refine (network_Set_Has.calls t191 ((rd_T42 l0_1 x26_1).f1) true _ A23.out).mono ?_); rintro e w' ⟨rfl, ⟨nd, rfl⟩⟩) | ((with_reducible refine gate_dst (N := 42) rfl ?_); refine Kd.R_lit k42 _ 42 ?hg (N := 42) ?hd (xs := ([(⟨(rd_T42 l0_1 x26_1).f0, (rd_T42 l0_1 x26_1).f1⟩ : S42)] : List (S42))) (inner := [.int .i64 ((rd_T42 l0_1 x26_1).f0), .int .i64 ((rd_T42 l0_1 x26_1).f1)]) (ok := fun _ => True) (okp := fun _ => True) ?hr ?hp (fun _ hk => hk) trivial (Below.refl _ _) (Nat.le_refl _) (by simp) ?_; (case hd => rfl); (case hg => rfl); (case hr => first | (go_simp; done) | (go_simp; rfl)); (case hp => exact (Reps.c2 (show Kd.M k42 _ _ _ (⟨(rd_T42 l0_1 x26_1).f0, (rd_T42 l0_1 x26_1).f1⟩ : S42) [.int .i64 ((rd_T42 l0_1 x26_1).f0), .int .i64 ((rd_T42 l0_1 x26_1).f1)] from (k42_mkM _ _ _ (⟨(rd_T42 l0_1 x26_1).f0, (rd_T42 l0_1 x26_1).f1⟩ : S42) )) (Reps.none _ _))); intro v205 w30 ho31 hb hg_ hnew_; clear hg_ hnew_; (first | rw [← Ny204.out] at ho31 | (simp only [Int.reduceToNat] at ho31; rw [← Ny204.out] at ho31)); have n0_ := Aside0.mk (Kd.S_elder' (by (with_reducible repeat (first | apply Kd.S_alloc | apply Kd.S_drewN | apply Kd.S_drew)); exact (Kd.S_mono (Kd.S_far (p := ⟨gb201, 1, none⟩) (Kd.S_far (p := ⟨gb201, 0, none⟩) (Kd.S_mono HO_9.out (fun k_ hk => (⟨hk, hk.2⟩ : _ ∧ k_ ≠ gb201))) (fun _ hk => hk.2) (.int .i64 ((rd_T42 l0_1 x26_1).f0))) (fun _ hk => hk.2) (.int .i64 ((rd_T42 l0_1 x26_1).f1))) (fun _ h_ => h_.1))) (Kd.R_base ho31) hb); have n1_ := Aside0.mk (Kd.R_below (by (with_reducible repeat (first | apply Kd.R_alloc | apply Kd.R_drewN | apply Kd.R_drew)); exact (Kd.R_mono (Kd.R_far (p := ⟨gb201, 1, none⟩) (Kd.R_far (p := ⟨gb201, 0, none⟩) (Kd.R_types HO_200001.out BK201.out (by decide)) (fun _ hk => hk.2) (.int .i64 ((rd_T42 l0_1 x26_1).f0))) (fun _ hk => hk.2) (.int .i64 ((rd_T42 l0_1 x26_1).f1))) (fun _ h_ => h_.1))) hb); have n2_ := Aside0.mk (Kd.R_below (by (with_reducible repeat (first | apply Kd.R_alloc | apply Kd.R_drewN | apply Kd.R_drew)); exact (Kd.R_mono (Kd.R_far (p := ⟨gb201, 1, none⟩) (Kd.R_far (p := ⟨gb201, 0, none⟩) (Kd.R_types HO_200002.out BK201.out (by decide)) (fun _ hk => hk.2) (.int .i64 ((rd_T42 l0_1 x26_1).f0))) (fun _ hk => hk.2) (.int .i64 ((rd_T42 l0_1 x26_1).f1))) (fun _ h_ => h_.1))) hb); have n3_ := Aside0.mk (Kd.R_lower (Kd.R_newB ho31 (g := gb201) (o := .cells #[.int .i64 ((rd_T42 l0_1 x26_1).f0), .int .i64 ((rd_T42 l0_1 x26_1).f1)] 42 (0, 0)) (by (with_reducible repeat (first | refine blk_drewN ?_ _ | refine blk_drew ?_ | refine blk_alloc ?_ _)); refine blk_put (cs := #[.int .i64 ((rd_T42 l0_1 x26_1).f0), .int .i64 0]) ?_ 1 _ rfl; (with_reducible repeat (first | refine blk_drewN ?_ _ | refine blk_drew ?_ | refine blk_alloc ?_ _)); refine blk_put (cs := #[.int .i64 0, .int .i64 0]) ?_ 0 _ rfl; (with_reducible repeat (first | refine blk_drewN ?_ _ | refine blk_drew ?_ | refine blk_alloc ?_ _)); exact BK201.out)) (below_size (zB HB))); have n4_ := Aside0.mk (blk_below (g := gb190) (o := .cells #[.int .i64 a0_0, .slice (some ad200) l0_1.length c0_1] 24 (0, 0)) (by (with_reducible repeat (first | refine blk_drewN ?_ _ | refine blk_drew ?_ | refine blk_alloc ?_ _)); refine blk_far ?_ NB190_201.out _; (with_reducible repeat (first | refine blk_drewN ?_ _ | refine blk_drew ?_ | refine blk_alloc ?_ _)); refine blk_far ?_ NB190_201.out _; (with_reducible repeat (first | refine blk_drewN ?_ _ | refine blk_drew ?_ | refine blk_alloc ?_ _)); exact BK190.out) hb); have n5_ := Aside0.mk (blk_below (g := gb199) (o := .cells #[.int .u64 t192, .slice Ao12 t193.length co12, .slice Ao14 t196.length co14] 80 (0, 0)) (by (with_reducible repeat (first | refine blk_drewN ?_ _ | refine blk_drew ?_ | refine blk_alloc ?_ _)); refine blk_far ?_ NB199_201.out _; (with_reducible repeat (first | refine blk_drewN ?_ _ | refine blk_drew ?_ | refine blk_alloc ?_ _)); refine blk_far ?_ NB199_201.out _; (with_reducible repeat (first | refine blk_drewN ?_ _ | refine blk_drew ?_ | refine blk_alloc ?_ _)); exact BK199.out) hb); have n6_ := Aside0.mk (blk_below (g := gb201) (o := .cells #[.int .i64 ((rd_T42 l0_1 x26_1).f0), .int .i64 ((rd_T42 l0_1 x26_1).f1)] 42 (0, 0)) (by (with_reducible repeat (first | refine blk_drewN ?_ _ | refine blk_drew ?_ | refine blk_alloc ?_ _)); refine blk_put (cs := #[.int .i64 ((rd_T42 l0_1 x26_1).f0), .int .i64 0]) ?_ 1 _ rfl; (with_reducible repeat (first | refine blk_drewN ?_ _ | refine blk_drew ?_ | refine blk_alloc ?_ _)); refine blk_put (cs := #[.int .i64 0, .int .i64 0]) ?_ 0 _ rfl; (with_reducible repeat (first | refine blk_drewN ?_ _ | refine blk_drew ?_ | refine blk_alloc ?_ _)); exact BK201.out) hb); have n7_ := Aside0.mk (below_step (zB HB) hb); clear HO_9; clear HO_200001; clear HO_200002; clear BK190; clear BK199; clear BK201; clear HB; have HO_9 := n0_; have HO_200001 := n1_; have HO_200002 := n2_; have HO206 := n3_; have BK190 := n4_; have BK199 := n5_; have BK201 := n6_; have HB := n7_; clear n0_ n1_ n2_ n3_ n4_ n5_ n6_ n7_; clear hb ho31; obtain ⟨Ao33, co33, eo33⟩ := Kd.R_slice HO206.out; subst eo33) | ((with_reducible refine gate_builtin (b := .append) (xs := #[.tmp 40, .tmp 43]) rfl ?_); at_builtin; refine Kd.S_append (Kd.slice 42 k42) (w0 := w) w.heap.size rfl (.tmp 40) (.tmp 43) 26 22 (.slice none 0 0) 24 rfl Tryd.underlying26 info22 rfl (by decide) (by omega) u9 x9_1 y204 [.slice Ao33 y204.length co33] (fun k_ => k_ ≠ gb201) (fun k_ => some k_ = (.slice Ao33 y204.length co33 : Value).ownBlock) rfl rfl ?aP (fun k_ hk_ => ((Kd.R_mono (ok' := fun k_ => ((fun k_ => k_ ≠ gb201)) k_ ∧ some k_ ≠ (u9 : Value).ownBlock) (Kd.R_apart' (HO206.out) (Kd.S_typed HO_9.out) (by decide)) (fun k_ hk => ⟨hk.1.2, hk.2⟩))).1 k_ hk_.symm) ?aF ?aO ?aB ?aS ?aL ?_; (case aP => exact Kd.M_row (Kd.R_mono (Kd.R_tight rfl (Kd.R_mono (ok' := fun k_ => ((fun k_ => k_ ≠ gb201)) k_ ∧ some k_ ≠ (u9 : Value).ownBlock) (Kd.R_apart' (HO206.out) (Kd.S_typed HO_9.out) (by decide)) (fun k_ hk => ⟨hk.1.2, hk.2⟩))) (fun _ h_ => h_))); (case aB => exact (zB HB)); (case aF => exact (fun k_ hk => Kd.freshB (g := gb201) (o := .cells #[.int .i64 ((rd_T42 l0_1 x26_1).f0), .int .i64 ((rd_T42 l0_1 x26_1).f1)] 42 (0, 0)) (zK BK201) k_ hk)); (case aO => exact (by (with_reducible repeat (first | apply Kd.S_alloc | apply Kd.S_drewN | apply Kd.S_drew)); exact Kd.S_mono HO_9.out (fun k_ hk => ⟨hk.1.2, fun e_ => hk.2 e_⟩))); (case aS => exact (below_size (zB HB))); (case aL => have := LMc25.out; omega); intro v208 w32 ho hb hg hat; rw [← Ny207.out] at ho; have n0_ := Aside0.mk (Kd.R_over' (zR HO_200001) (Kd.S_typed (zS HO_9)) (by decide) hg); have n1_ := Aside0.mk (Kd.R_over' (zR HO_200002) (Kd.S_typed (zS HO_9)) (by decide) hg); have n2_ := Aside0.mk (blk_grown (g := gb190) (o := .cells #[.int .i64 a0_0, .slice (some ad200) l0_1.length c0_1] 24 (0, 0)) (zK BK190) hg (Kd.S_ne HO_9.out BK190.out (by decide))); have n3_ := Aside0.mk (blk_grown (g := gb199) (o := .cells #[.int .u64 t192, .slice Ao12 t193.length co12, .slice Ao14 t196.length co14] 80 (0, 0)) (zK BK199) hg (Kd.S_ne HO_9.out BK199.out (by decide))); have n4_ := Aside0.mk (blk_grown (g := gb201) (o := .cells #[.int .i64 ((rd_T42 l0_1 x26_1).f0), .int .i64 ((rd_T42 l0_1 x26_1).f1)] 42 (0, 0)) (zK BK201) hg (Kd.S_ne HO_9.out BK201.out (by decide))); have n5_ := Aside0.mk (hb); have n6_ := Aside0.mk (ho); clear HO_200001; clear HO_200002; clear BK190; clear BK199; clear BK201; clear HB; clear HO_9; clear HO206; have HO_200001 := n0_; have HO_200002 := n1_; have BK190 := n2_; have BK199 := n3_; have BK201 := n4_; have HB := n5_; have HO209 := n6_; clear n0_ n1_ n2_ n3_ n4_ n5_ n6_; clear ho hb hg hat))
               go_roundg k1
               case measure => have := HK1.out; omega
               case rel => exact ⟨(y207), (wrap64 (x26_1 + 1)), (by first | rfl | (simp; done) | (simp [*]; done)), H', ⟨by have := HK1.out; omega⟩, ⟨by (with_reducible repeat (first | apply Kd.S_alloc | apply Kd.S_drewN | apply Kd.S_drew)); exact Kd.S_mono HO209.out (fun _ hk => trivial)⟩, ⟨zR HO_200001⟩, ⟨zR HO_200002⟩, ⟨zK BK190⟩, ⟨zK BK199⟩, ⟨zB HB⟩⟩
             · rw [if_neg c25] at H
               exact absurd H (by simp)
           · replace c24 := Bool.eq_false_iff.mpr c24
             subst c24
             have H1 : (enforce_duties.l0 k1 l1 a2 t191 x9_1 l0_1 (l0_1.length : Int) (wrap64 (x26_1 + 1)) a0_0 l0_1 t192 t193 t196) = some r := by rw [if_neg (show ¬ (false = true) by decide)] at H; exact H
             clear H
             have H := H1
             clear H1
             have H' := Aside0.mk H
             clear H
             have p200 : 0 ≤ (x26_1 : Int) := of_decide_eq_true (by first | (with_reducible assumption) | assumption)
             have q200 : x26_1 < (l0_1.length : Int) := of_decide_eq_true (by first | (with_reducible assumption) | assumption)
             obtain ⟨ad200, e200, hx200_0, hx200_1⟩ := at_T42 HR0_1.out x26_1 p200 q200
             cases e200
             replace hx200_0 := (HB.out.cell (World.block_lt_of_cell? w _ hx200_0)).trans hx200_0
             replace hx200_1 := (HB.out.cell (World.block_lt_of_cell? w _ hx200_1)).trans hx200_1
             replace p200 := eq_true p200
             replace q200 := eq_true q200
             go_wp2_with (first | ((with_reducible refine gate_dst (N := 11) rfl ?_); refine box_event ?hg (N := 11) ?hd (cs := #[.int .i64 0, .int .i64 0]) (t := 42) ?hr ?_; (case hd => rfl); (case hg => rfl); (case hr => first | (go_simp; done) | (go_simp; rfl)); intro gb201 hg w34 hbox hb; have n0_ := Aside0.mk (Kd.S_below (Kd.S_elderB (zS HO_9) gb201 (Nat.le_of_eq hg.symm)) hb); have n1_ := Aside0.mk (Kd.R_below (zR HO_200001) hb); have n2_ := Aside0.mk (Kd.R_below (zR HO_200002) hb); have n3_ := Aside0.mk (blk_below (g := gb190) (o := .cells #[.int .i64 a0_0, .slice (some ad200) l0_1.length c0_1] 24 (0, 0)) (zK BK190) hb); have n4_ := Aside0.mk (blk_below (g := gb199) (o := .cells #[.int .u64 t192, .slice Ao12 t193.length co12, .slice Ao14 t196.length co14] 80 (0, 0)) (zK BK199) hb); have n5_ := Aside0.mk (below_step (zB HB) hb); have n6_ := Aside0.mk (hbox); have n7_ := Aside0.mk ((by rw [hg]; exact (below_size (zB HB)) : w.heap.size ≤ gb201)); have n8_ := Aside0.mk ((by rw [hg]; exact (below_size (zB HB)) : w.heap.size ≤ gb201)); have n9_ := Aside0.mk ((by rw [hg]; exact Nat.ne_of_lt (blk_lt (g := gb190) (o := .cells #[.int .i64 a0_0, .slice (some ad200) l0_1.length c0_1] 24 (0, 0)) (zK BK190)) : gb190 ≠ gb201)); have n10_ := Aside0.mk ((by rw [hg]; exact Nat.ne_of_gt (blk_lt (g := gb190) (o := .cells #[.int .i64 a0_0, .slice (some ad200) l0_1.length c0_1] 24 (0, 0)) (zK BK190)) : gb201 ≠ gb190)); have n11_ := Aside0.mk ((by rw [hg]; exact Nat.ne_of_lt (blk_lt (g := gb199) (o := .cells #[.int .u64 t192, .slice Ao12 t193.length co12, .slice Ao14 t196.length co14] 80 (0, 0)) (zK BK199)) : gb199 ≠ gb201)); have n12_ := Aside0.mk ((by rw [hg]; exact Nat.ne_of_gt (blk_lt (g := gb199) (o := .cells #[.int .u64 t192, .slice Ao12 t193.length co12, .slice Ao14 t196.length co14] 80 (0, 0)) (zK BK199)) : gb201 ≠ gb199)); clear HO_9; clear HO_200001; clear HO_200002; clear BK190; clear BK199; clear HB; have HO_9 := n0_; have HO_200001 := n1_; have HO_200002 := n2_; have BK190 := n3_; have BK199 := n4_; have HB := n5_; have BK201 := n6_; have GW201 := n7_; have GE201 := n8_; have NB190_201 := n9_; have NB201_190 := n10_; have NB199_201 := n11_; have NB201_199 := n12_; clear n0_ n1_ n2_ n3_ n4_ n5_ n6_ n7_ n8_ n9_ n10_ n11_ n12_; clear hb hbox hg; have hnb35 := NB201_190.out; have hnc35 := NB190_201.out; have hnb36 := NB201_199.out; have hnc36 := NB199_201.out; have hcz37_0 : w34.cell? ⟨gb201, 0, none⟩ = some (.int .i64 0) := (blk_cell BK201.out 0).trans rfl; have hcz37_1 : w34.cell? ⟨gb201, 1, none⟩ = some (.int .i64 0) := (blk_cell BK201.out 1).trans rfl; have hfz37_0 := blk_frozen BK201.out 0; have hfz37_1 := blk_frozen BK201.out 1) | ((with_reducible refine gate_callee (f := 77) rfl ?_); refine goesL_ (some 33) rfl rfl Tryd.func77 (by kernel_rfl) rfl #[.int .u64 t191, .int .i64 ((rd_T42 l0_1 x26_1).f0)] rfl (by (try simp only [List.map_toArray, List.map_cons, List.map_nil]); first | done | rfl | (simp only [List.length_drop, List.length_take]; rfl)) ?_; (with_reducible refine (network_Set_Has.calls t191 ((rd_T42 l0_1 x26_1).f0) true _ A21.out).mono ?_); rintro e w' ⟨rfl, ⟨nd, rfl⟩⟩; refine ⟨_, rfl, ?_⟩) | (go_at_call 77; (with_reducible refine (network_Set_Has.calls t191 ((rd_T42 l0_1 x26_1).f1) false _ A23.out).mono ?_); rintro e w' ⟨rfl, ⟨nd, rfl⟩⟩))
             go_roundg k1
             case measure => have := HK1.out; omega
             case rel => exact ⟨(x9_1), (wrap64 (x26_1 + 1)), (by first | rfl | (simp; done) | (simp [*]; done)), H', ⟨by have := HK1.out; omega⟩, ⟨by (with_reducible repeat (first | apply Kd.S_alloc | apply Kd.S_drewN | apply Kd.S_drew)); exact Kd.S_mono (Kd.S_far (p := ⟨gb201, 1, none⟩) (Kd.S_far (p := ⟨gb201, 0, none⟩) (Kd.S_mono HO_9.out (fun k_ hk => (⟨hk, hk.2⟩ : _ ∧ k_ ≠ gb201))) (fun _ hk => hk.2) (.int .i64 ((rd_T42 l0_1 x26_1).f0))) (fun _ hk => hk.2) (.int .i64 ((rd_T42 l0_1 x26_1).f1))) (fun _ hk => trivial)⟩, ⟨by (with_reducible repeat (first | apply Kd.R_alloc | apply Kd.R_drewN | apply Kd.R_drew)); exact Kd.R_mono (Kd.R_far (p := ⟨gb201, 1, none⟩) (Kd.R_far (p := ⟨gb201, 0, none⟩) (Kd.R_types HO_200001.out BK201.out (by decide)) (fun _ hk => hk.2) (.int .i64 ((rd_T42 l0_1 x26_1).f0))) (fun _ hk => hk.2) (.int .i64 ((rd_T42 l0_1 x26_1).f1))) (fun _ hk => hk.1)⟩, ⟨by (with_reducible repeat (first | apply Kd.R_alloc | apply Kd.R_drewN | apply Kd.R_drew)); exact Kd.R_mono (Kd.R_far (p := ⟨gb201, 1, none⟩) (Kd.R_far (p := ⟨gb201, 0, none⟩) (Kd.R_types HO_200002.out BK201.out (by decide)) (fun _ hk => hk.2) (.int .i64 ((rd_T42 l0_1 x26_1).f0))) (fun _ hk => hk.2) (.int .i64 ((rd_T42 l0_1 x26_1).f1))) (fun _ hk => hk.1)⟩, ⟨by (with_reducible repeat (first | refine blk_drewN ?_ _ | refine blk_drew ?_ | refine blk_alloc ?_ _)); refine blk_far ?_ NB190_201.out _; (with_reducible repeat (first | refine blk_drewN ?_ _ | refine blk_drew ?_ | refine blk_alloc ?_ _)); refine blk_far ?_ NB190_201.out _; (with_reducible repeat (first | refine blk_drewN ?_ _ | refine blk_drew ?_ | refine blk_alloc ?_ _)); exact BK190.out⟩, ⟨by (with_reducible repeat (first | refine blk_drewN ?_ _ | refine blk_drew ?_ | refine blk_alloc ?_ _)); refine blk_far ?_ NB199_201.out _; (with_reducible repeat (first | refine blk_drewN ?_ _ | refine blk_drew ?_ | refine blk_alloc ?_ _)); refine blk_far ?_ NB199_201.out _; (with_reducible repeat (first | refine blk_drewN ?_ _ | refine blk_drew ?_ | refine blk_alloc ?_ _)); exact BK199.out⟩, ⟨zB HB⟩⟩
         · replace c22 := Bool.eq_false_iff.mpr c22
           subst c22
           have H1 : (enforce_duties.l0 k1 l1 a2 t191 x9_1 l0_1 (l0_1.length : Int) (wrap64 (x26_1 + 1)) a0_0 l0_1 t192 t193 t196) = some r := by rw [if_neg (show ¬ (false = true) by decide)] at H; exact H
           clear H
           have H := H1
           clear H1
           have H' := Aside0.mk H
           clear H
           have p200 : 0 ≤ (x26_1 : Int) := of_decide_eq_true (by first | (with_reducible assumption) | assumption)
           have q200 : x26_1 < (l0_1.length : Int) := of_decide_eq_true (by first | (with_reducible assumption) | assumption)
           obtain ⟨ad200, e200, hx200_0, hx200_1⟩ := at_T42 HR0_1.out x26_1 p200 q200
           cases e200
           replace hx200_0 := (HB.out.cell (World.block_lt_of_cell? w _ hx200_0)).trans hx200_0
           replace hx200_1 := (HB.out.cell (World.block_lt_of_cell? w _ hx200_1)).trans hx200_1
           replace p200 := eq_true p200
           replace q200 := eq_true q200
           go_wp2_with (first | ((with_reducible refine gate_dst (N := 11) rfl ?_); refine box_event ?hg (N := 11) ?hd (cs := #[.int .i64 0, .int .i64 0]) (t := 42) ?hr ?_; (case hd => rfl); (case hg => rfl); (case hr => first | (go_simp; done) | (go_simp; rfl)); intro gb201 hg w38 hbox hb; have n0_ := Aside0.mk (Kd.S_below (Kd.S_elderB (zS HO_9) gb201 (Nat.le_of_eq hg.symm)) hb); have n1_ := Aside0.mk (Kd.R_below (zR HO_200001) hb); have n2_ := Aside0.mk (Kd.R_below (zR HO_200002) hb); have n3_ := Aside0.mk (blk_below (g := gb190) (o := .cells #[.int .i64 a0_0, .slice (some ad200) l0_1.length c0_1] 24 (0, 0)) (zK BK190) hb); have n4_ := Aside0.mk (blk_below (g := gb199) (o := .cells #[.int .u64 t192, .slice Ao12 t193.length co12, .slice Ao14 t196.length co14] 80 (0, 0)) (zK BK199) hb); have n5_ := Aside0.mk (below_step (zB HB) hb); have n6_ := Aside0.mk (hbox); have n7_ := Aside0.mk ((by rw [hg]; exact (below_size (zB HB)) : w.heap.size ≤ gb201)); have n8_ := Aside0.mk ((by rw [hg]; exact (below_size (zB HB)) : w.heap.size ≤ gb201)); have n9_ := Aside0.mk ((by rw [hg]; exact Nat.ne_of_lt (blk_lt (g := gb190) (o := .cells #[.int .i64 a0_0, .slice (some ad200) l0_1.length c0_1] 24 (0, 0)) (zK BK190)) : gb190 ≠ gb201)); have n10_ := Aside0.mk ((by rw [hg]; exact Nat.ne_of_gt (blk_lt (g := gb190) (o := .cells #[.int .i64 a0_0, .slice (some ad200) l0_1.length c0_1] 24 (0, 0)) (zK BK190)) : gb201 ≠ gb190)); have n11_ := Aside0.mk ((by rw [hg]; exact Nat.ne_of_lt (blk_lt (g := gb199) (o := .cells #[.int .u64 t192, .slice Ao12 t193.length co12, .slice Ao14 t196.length co14] 80 (0, 0)) (zK BK199)) : gb199 ≠ gb201)); have n12_ := Aside0.mk ((by rw [hg]; exact Nat.ne_of_gt (blk_lt (g := gb199) (o := .cells #[.int .u64 t192, .slice Ao12 t193.length co12, .slice Ao14 t196.length co14] 80 (0, 0)) (zK BK199)) : gb201 ≠ gb199)); clear HO_9; clear HO_200001; clear HO_200002; clear BK190; clear BK199; clear HB; have HO_9 := n0_; have HO_200001 := n1_; have HO_200002 := n2_; have BK190 := n3_; have BK199 := n4_; have HB := n5_; have BK201 := n6_; have GW201 := n7_; have GE201 := n8_; have NB190_201 := n9_; have NB201_190 := n10_; have NB199_201 := n11_; have NB201_199 := n12_; clear n0_ n1_ n2_ n3_ n4_ n5_ n6_ n7_ n8_ n9_ n10_ n11_ n12_; clear hb hbox hg; have hnb39 := NB201_190.out; have hnc39 := NB190_201.out; have hnb40 := NB201_199.out; have hnc40 := NB199_201.out; have hcz41_0 : w38.cell? ⟨gb201, 0, none⟩ = some (.int .i64 0) := (blk_cell BK201.out 0).trans rfl; have hcz41_1 : w38.cell? ⟨gb201, 1, none⟩ = some (.int .i64 0) := (blk_cell BK201.out 1).trans rfl; have hfz41_0 := blk_frozen BK201.out 0; have hfz41_1 := blk_frozen BK201.out 1) | ((with_reducible refine gate_callee (f := 77) rfl ?_); refine goesL_ (some 33) rfl rfl Tryd.func77 (by kernel_rfl) rfl #[.int .u64 t191, .int .i64 ((rd_T42 l0_1 x26_1).f0)] rfl (by (try simp only [List.map_toArray, List.map_cons, List.map_nil]); first | done | rfl | (simp only [List.length_drop, List.length_take]; rfl)) ?_; (with_reducible refine (network_Set_Has.calls t191 ((rd_T42 l0_1 x26_1).f0) false _ A21.out).mono ?_); rintro e w' ⟨rfl, ⟨nd, rfl⟩⟩; refine ⟨_, rfl, ?_⟩))
           go_roundg k1
           case measure => have := HK1.out; omega
           case rel => exact ⟨(x9_1), (wrap64 (x26_1 + 1)), (by first | rfl | (simp; done) | (simp [*]; done)), H', ⟨by have := HK1.out; omega⟩, ⟨by (with_reducible repeat (first | apply Kd.S_alloc | apply Kd.S_drewN | apply Kd.S_drew)); exact Kd.S_mono (Kd.S_far (p := ⟨gb201, 1, none⟩) (Kd.S_far (p := ⟨gb201, 0, none⟩) (Kd.S_mono HO_9.out (fun k_ hk => (⟨hk, hk.2⟩ : _ ∧ k_ ≠ gb201))) (fun _ hk => hk.2) (.int .i64 ((rd_T42 l0_1 x26_1).f0))) (fun _ hk => hk.2) (.int .i64 ((rd_T42 l0_1 x26_1).f1))) (fun _ hk => trivial)⟩, ⟨by (with_reducible repeat (first | apply Kd.R_alloc | apply Kd.R_drewN | apply Kd.R_drew)); exact Kd.R_mono (Kd.R_far (p := ⟨gb201, 1, none⟩) (Kd.R_far (p := ⟨gb201, 0, none⟩) (Kd.R_types HO_200001.out BK201.out (by decide)) (fun _ hk => hk.2) (.int .i64 ((rd_T42 l0_1 x26_1).f0))) (fun _ hk => hk.2) (.int .i64 ((rd_T42 l0_1 x26_1).f1))) (fun _ hk => hk.1)⟩, ⟨by (with_reducible repeat (first | apply Kd.R_alloc | apply Kd.R_drewN | apply Kd.R_drew)); exact Kd.R_mono (Kd.R_far (p := ⟨gb201, 1, none⟩) (Kd.R_far (p := ⟨gb201, 0, none⟩) (Kd.R_types HO_200002.out BK201.out (by decide)) (fun _ hk => hk.2) (.int .i64 ((rd_T42 l0_1 x26_1).f0))) (fun _ hk => hk.2) (.int .i64 ((rd_T42 l0_1 x26_1).f1))) (fun _ hk => hk.1)⟩, ⟨by (with_reducible repeat (first | refine blk_drewN ?_ _ | refine blk_drew ?_ | refine blk_alloc ?_ _)); refine blk_far ?_ NB190_201.out _; (with_reducible repeat (first | refine blk_drewN ?_ _ | refine blk_drew ?_ | refine blk_alloc ?_ _)); refine blk_far ?_ NB190_201.out _; (with_reducible repeat (first | refine blk_drewN ?_ _ | refine blk_drew ?_ | refine blk_alloc ?_ _)); exact BK190.out⟩, ⟨by (with_reducible repeat (first | refine blk_drewN ?_ _ | refine blk_drew ?_ | refine blk_alloc ?_ _)); refine blk_far ?_ NB199_201.out _; (with_reducible repeat (first | refine blk_drewN ?_ _ | refine blk_drew ?_ | refine blk_alloc ?_ _)); refine blk_far ?_ NB199_201.out _; (with_reducible repeat (first | refine blk_drewN ?_ _ | refine blk_drew ?_ | refine blk_alloc ?_ _)); exact BK199.out⟩, ⟨zB HB⟩⟩
       · rw [if_neg c20] at H
         exact absurd H (by simp)
     · rw [if_neg c19] at H
       exact absurd H (by simp)
   · rw [if_neg c18] at H
     have c18b0 : decide (x26_1 < (l0_1.length : Int)) = false := decide_eq_false c18
     clear c18
     replace H := Option.bind_eq_some_iff.mp H
     obtain ⟨t210, A420, H⟩ := H
     replace H : (enforce_duties.l1 k1 l1 a2 t191 x9_1 t210 a0_0 0 t192 t193 t196) = some r := H
     have A42 := Aside0.mk A420
     clear A420
     have H' := Aside0.mk H
     clear H
     have hnb43 := NB199_190.out
     have hnc43 := NB190_199.out
     have hcz44_0 : wr.cell? ⟨gb199, 0, none⟩ = some (.int .u64 t192) := (blk_cell BK199.out 0).trans rfl
     have hcz44_1 : wr.cell? ⟨gb199, 1, none⟩ = some (.slice Ao12 t193.length co12) := (blk_cell BK199.out 1).trans rfl
     have hcz44_2 : wr.cell? ⟨gb199, 2, none⟩ = some (.slice Ao14 t196.length co14) := (blk_cell BK199.out 2).trans rfl
     have hfz44_0 := blk_frozen BK199.out 0
     have hfz44_1 := blk_frozen BK199.out 1
     have hfz44_2 := blk_frozen BK199.out 2
     go_wp2_with (first | ((with_reducible refine gate_callee (f := 79) rfl ?_); refine goesL_ (some 48) rfl rfl Tryd.func79 (by kernel_rfl) rfl #[.agg #[.int .u64 t192, .slice Ao12 t193.length co12, .slice Ao14 t196.length co14], .int .u64 t191] rfl (by (try simp only [List.map_toArray, List.map_cons, List.map_nil]); first | done | rfl | (simp only [List.length_drop, List.length_take]; rfl)) ?_; (with_reducible refine (network_Net_Hit.calls k1 t192 _ _ t193 _ _ t196 t191 t210 _ ?side1 ?side2 ?side3 ?side4 ?side5 A42.out).mono ?_); (case side1 => repeat (first | exact (Kd.R_reads' HO_200001.out).2.2 | (with_reducible refine Kd.C_alloc ?_ _) | (with_reducible refine Kd.C_drewN ?_ _) | (with_reducible refine Kd.C_drew ?_))); (case side2 => exact (Kd.R_reads' HO_200001.out).2.1); (case side3 => repeat (first | exact (Kd.R_reads' HO_200002.out).2.2 | (with_reducible refine Kd.C_alloc ?_ _) | (with_reducible refine Kd.C_drewN ?_ _) | (with_reducible refine Kd.C_drew ?_))); (case side4 => exact (Kd.R_reads' HO_200002.out).2.1); (case side5 => exact TabT.now HTab.out (zB HB)); rintro e w45 ⟨rfl, hb⟩; refine ⟨_, rfl, ?_⟩; have n0_ := Aside0.mk (Kd.S_below (zS HO_9) hb); have n1_ := Aside0.mk (Kd.R_below (zR HO_200001) hb); have n2_ := Aside0.mk (Kd.R_below (zR HO_200002) hb); have n3_ := Aside0.mk (blk_below (g := gb190) (o := .cells #[.int .i64 a0_0, .slice A0_1 l0_1.length c0_1] 24 (0, 0)) (zK BK190) hb); have n4_ := Aside0.mk (blk_below (g := gb199) (o := .cells #[.int .u64 t192, .slice Ao12 t193.length co12, .slice Ao14 t196.length co14] 80 (0, 0)) (zK BK199) hb); have n5_ := Aside0.mk (below_step (zB HB) hb); clear HO_9; clear HO_200001; clear HO_200002; clear BK190; clear BK199; clear HB; have HO_9 := n0_; have HO_200001 := n1_; have HO_200002 := n2_; have BK190 := n3_; have BK199 := n4_; have HB := n5_; clear n0_ n1_ n2_ n3_ n4_ n5_; (try clear hb); (try clear hb2); (try clear hk); (try clear hi); have hcz46_0 : w45.cell? ⟨gb190, 0, none⟩ = some (.int .i64 a0_0) := (blk_cell BK190.out 0).trans rfl; have hcz46_1 : w45.cell? ⟨gb190, 1, none⟩ = some (.slice A0_1 l0_1.length c0_1) := (blk_cell BK190.out 1).trans rfl; have hfz46_0 := blk_frozen BK190.out 0; have hfz46_1 := blk_frozen BK190.out 1))
     go_loopg [9, 51] k1 (fun kq v9 v51 w' => ∃ (x9_2 : List (List (S42))) (x51_2 : Int), v51 = .int .i64 x51_2 ∧ Aside0 (enforce_duties.l1 kq l1 a2 t191 x9_2 t210 a0_0 x51_2 t192 t193 t196 = some r) ∧ Aside0 (kq ≤ k1) ∧ Aside0 (Kd.S (Kd.slice 42 k42) 22 w' w.heap.size (fun _ => True) v9 x9_2) ∧ Aside0 (Kd.R (Kd.int .u64) 76 w' w.heap.size (fun k_ => some k_ ≠ ((.slice Ao14 t196.length co14) : Value).ownBlock) (.slice Ao12 t193.length co12) t193) ∧ Aside0 (Kd.R (Kd.int .u64) 76 w' w.heap.size (fun k_ => some k_ ≠ ((.slice Ao12 t193.length co12) : Value).ownBlock) (.slice Ao14 t196.length co14) t196) ∧ Aside0 (w'.heap[gb190]? = some (.cells #[.int .i64 a0_0, (.slice A0_1 l0_1.length c0_1)] 24 (0, 0))) ∧ Aside0 (w'.heap[gb199]? = some (.cells #[.int .u64 t192, (.slice Ao12 t193.length co12), (.slice Ao14 t196.length co14)] 80 (0, 0))) ∧ Aside0 (Below w.heap.size w w'))
     case atStart => exact ⟨(x9_1), (0), (by first | rfl | (simp; done) | (simp [*]; done)), H', ⟨Nat.le_refl _⟩, ⟨zS HO_9⟩, ⟨zR HO_200001⟩, ⟨zR HO_200002⟩, ⟨zK BK190⟩, ⟨zK BK199⟩, ⟨zB HB⟩⟩
     case round =>
      clear H'
      try clear c1
      try clear c2
      try clear p2
      try clear q2
      try clear hx2
      try clear c3
      try clear c4
      try clear c5
      try clear p6
      try clear c7
      try clear c16
      try clear c18
      try clear c18b0
      try clear c19
      try clear c19b0
      try clear c20
      try clear c20b0
      try clear p20
      try clear q20
      try clear hx20
      try clear c22
      try clear c24
      try clear c25
      try clear c27
      try clear c28
      try clear c35
      try clear c36
      try clear c39
      try clear c40
      try clear c43
      try clear hcz17_0
      try clear hcz17_1
      try clear hcz29_0
      try clear hcz29_1
      try clear hcz37_0
      try clear hcz37_1
      try clear hcz41_0
      try clear hcz41_1
      try clear hcz44_0
      try clear hcz44_1
      try clear hcz44_2
      try clear hcz46_0
      try clear hcz46_1
      try clear hfz17_0
      try clear hfz17_1
      try clear hfz29_0
      try clear hfz29_1
      try clear hfz37_0
      try clear hfz37_1
      try clear hfz41_0
      try clear hfz41_1
      try clear hfz44_0
      try clear hfz44_1
      try clear hfz44_2
      try clear hfz46_0
      try clear hfz46_1
      try clear hx200_0
      try clear hx200_1
      try clear p2
      try clear p200
      try clear q200
      obtain ⟨x9_2, x51_2, rfl, HA, HK2, HO_9, HO_200001, HO_200002, BK190, BK199, HB⟩ := hrel
      cases gk with
      | zero => exact absurd HA.out (by simp [enforce_duties.l1])
      | succ k2 =>
       have H := HA.out
       clear HA
       simp only [enforce_duties.l1] at H
       by_cases c47 : x51_2 < a0_0
       · rw [if_pos c47] at H
         have c47b0 : decide (x51_2 < a0_0) = true := decide_eq_true c47
         clear c47
         have HC48 := Aside0.mk H
         clear H
         go_upto_region 13 with (fail)
         go_cut [75] (fun v75 wc => ∃ (kq : Nat) (x75_47 : Bool), v75 = .bool x75_47 ∧ Aside0 (enforce_duties.j2 kq l1 a2 t191 x9_2 t210 x51_2 a0_0 x51_2 x75_47 t192 t193 t196 = some r) ∧ Aside0 (kq ≤ k2) ∧ Aside0 (Kd.S (Kd.slice 42 k42) 22 wc w.heap.size (fun _ => True) u9 x9_2) ∧ Aside0 (Kd.R (Kd.int .u64) 76 wc w.heap.size (fun k_ => some k_ ≠ ((.slice Ao14 t196.length co14) : Value).ownBlock) (.slice Ao12 t193.length co12) t193) ∧ Aside0 (Kd.R (Kd.int .u64) 76 wc w.heap.size (fun k_ => some k_ ≠ ((.slice Ao12 t193.length co12) : Value).ownBlock) (.slice Ao14 t196.length co14) t196) ∧ Aside0 (wc.heap[gb190]? = some (.cells #[.int .i64 a0_0, (.slice A0_1 l0_1.length c0_1)] 24 (0, 0))) ∧ Aside0 (wc.heap[gb199]? = some (.cells #[.int .u64 t192, (.slice Ao12 t193.length co12), (.slice Ao14 t196.length co14)] 80 (0, 0))) ∧ Aside0 (Below w.heap.size w wc))
         case first =>
          have H := HC48.out
          clear HC48
          replace H := Option.bind_eq_some_iff.mp H
          obtain ⟨t211, A490, H⟩ := H
          replace H : (if t211 = true then (enforce_duties.j2 k2 l1 a2 t191 x9_2 t210 x51_2 a0_0 x51_2 true t192 t193 t196) else ((network_Set_Has.f t210 x51_2).bind fun t212 => (if t212 = true then (enforce_duties.j2 k2 l1 a2 t191 x9_2 t210 x51_2 a0_0 x51_2 true t192 t193 t196) else (if a2 = 1 then (if 0 ≤ x51_2 then (if x51_2 < (t196.length : Int) then (enforce_duties.j2 k2 l1 a2 t191 x9_2 t210 x51_2 a0_0 x51_2 ((Go.bits .and .u64 (rd t196 x51_2) t191) == 0) t192 t193 t196) else (none)) else (none)) else (enforce_duties.j2 k2 l1 a2 t191 x9_2 t210 x51_2 a0_0 x51_2 false t192 t193 t196))))) = some r := H
          have A49 := Aside0.mk A490
          clear A490
          by_cases c50 : t211 = true
          · subst c50
            have H1 : (enforce_duties.j2 k2 l1 a2 t191 x9_2 t210 x51_2 a0_0 x51_2 true t192 t193 t196) = some r := by rw [if_pos rfl] at H; exact H
            clear H
            have H := H1
            clear H1
            have H' := Aside0.mk H
            clear H
            go_wp2_with (first | ((with_reducible refine gate_callee (f := 77) rfl ?_); refine goesL_ (some 56) rfl rfl Tryd.func77 (by kernel_rfl) rfl #[.int .u64 t191, .int .i64 x51_2] rfl (by (try simp only [List.map_toArray, List.map_cons, List.map_nil]); first | done | rfl | (simp only [List.length_drop, List.length_take]; rfl)) ?_; (with_reducible refine (network_Set_Has.calls t191 x51_2 true _ A49.out).mono ?_); rintro e w' ⟨rfl, ⟨nd, rfl⟩⟩; refine ⟨_, rfl, ?_⟩))
            go_meet
            case rel => exact ⟨_, (true), (by first | rfl | (simp; done) | (simp [*]; done)), H', ⟨by have := HK1.out; have := HK2.out; first | omega | exact Nat.le_refl _⟩, ⟨zS HO_9⟩, ⟨zR HO_200001⟩, ⟨zR HO_200002⟩, ⟨zK BK190⟩, ⟨zK BK199⟩, ⟨zB HB⟩⟩
          · replace c50 := Bool.eq_false_iff.mpr c50
            subst c50
            have H1 : ((network_Set_Has.f t210 x51_2).bind fun t212 => (if t212 = true then (enforce_duties.j2 k2 l1 a2 t191 x9_2 t210 x51_2 a0_0 x51_2 true t192 t193 t196) else (if a2 = 1 then (if 0 ≤ x51_2 then (if x51_2 < (t196.length : Int) then (enforce_duties.j2 k2 l1 a2 t191 x9_2 t210 x51_2 a0_0 x51_2 ((Go.bits .and .u64 (rd t196 x51_2) t191) == 0) t192 t193 t196) else (none)) else (none)) else (enforce_duties.j2 k2 l1 a2 t191 x9_2 t210 x51_2 a0_0 x51_2 false t192 t193 t196)))) = some r := by rw [if_neg (show ¬ (false = true) by decide)] at H; exact H
            clear H
            have H := H1
            clear H1
            replace H := Option.bind_eq_some_iff.mp H
            obtain ⟨t212, A510, H⟩ := H
            replace H : (if t212 = true then (enforce_duties.j2 k2 l1 a2 t191 x9_2 t210 x51_2 a0_0 x51_2 true t192 t193 t196) else (if a2 = 1 then (if 0 ≤ x51_2 then (if x51_2 < (t196.length : Int) then (enforce_duties.j2 k2 l1 a2 t191 x9_2 t210 x51_2 a0_0 x51_2 ((Go.bits .and .u64 (rd t196 x51_2) t191) == 0) t192 t193 t196) else (none)) else (none)) else (enforce_duties.j2 k2 l1 a2 t191 x9_2 t210 x51_2 a0_0 x51_2 false t192 t193 t196))) = some r := H
            have A51 := Aside0.mk A510
            clear A510
            by_cases c52 : t212 = true
            · subst c52
              have H1 : (enforce_duties.j2 k2 l1 a2 t191 x9_2 t210 x51_2 a0_0 x51_2 true t192 t193 t196) = some r := by rw [if_pos rfl] at H; exact H
              clear H
              have H := H1
              clear H1
              have H' := Aside0.mk H
              clear H
              go_wp2_with (first | ((with_reducible refine gate_callee (f := 77) rfl ?_); refine goesL_ (some 56) rfl rfl Tryd.func77 (by kernel_rfl) rfl #[.int .u64 t191, .int .i64 x51_2] rfl (by (try simp only [List.map_toArray, List.map_cons, List.map_nil]); first | done | rfl | (simp only [List.length_drop, List.length_take]; rfl)) ?_; (with_reducible refine (network_Set_Has.calls t191 x51_2 false _ A49.out).mono ?_); rintro e w' ⟨rfl, ⟨nd, rfl⟩⟩; refine ⟨_, rfl, ?_⟩) | (go_at_call 77; (with_reducible refine (network_Set_Has.calls t210 x51_2 true _ A51.out).mono ?_); rintro e w' ⟨rfl, ⟨nd, rfl⟩⟩))
              go_meet
              case rel => exact ⟨_, (true), (by first | rfl | (simp; done) | (simp [*]; done)), H', ⟨by have := HK1.out; have := HK2.out; first | omega | exact Nat.le_refl _⟩, ⟨zS HO_9⟩, ⟨zR HO_200001⟩, ⟨zR HO_200002⟩, ⟨zK BK190⟩, ⟨zK BK199⟩, ⟨zB HB⟩⟩
            · replace c52 := Bool.eq_false_iff.mpr c52
              subst c52
              have H1 : (if a2 = 1 then (if 0 ≤ x51_2 then (if x51_2 < (t196.length : Int) then (enforce_duties.j2 k2 l1 a2 t191 x9_2 t210 x51_2 a0_0 x51_2 ((Go.bits .and .u64 (rd t196 x51_2) t191) == 0) t192 t193 t196) else (none)) else (none)) else (enforce_duties.j2 k2 l1 a2 t191 x9_2 t210 x51_2 a0_0 x51_2 false t192 t193 t196)) = some r := by rw [if_neg (show ¬ (false = true) by decide)] at H; exact H
              clear H
              have H := H1
              clear H1
              by_cases c53 : a2 = 1
              · rw [if_pos c53] at H
                have c53b0 : (a2 == 1) = true := beq_iff_eq.mpr c53
                have c53b1 : (a2 != 1) = false := bne_eq_false_iff_eq.mpr c53
                clear c53
                (first | rw [c53b0] | (simp only [i64_w, i32_w]; rw [c53b0]) | skip)
                by_cases c54 : 0 ≤ x51_2
                · rw [if_pos c54] at H
                  have c54b0 : decide (0 ≤ x51_2) = true := decide_eq_true c54
                  clear c54
                  by_cases c55 : x51_2 < (t196.length : Int)
                  · rw [if_pos c55] at H
                    have c55b0 : decide (x51_2 < (t196.length : Int)) = true := decide_eq_true c55
                    clear c55
                    have H' := Aside0.mk H
                    clear H
                    go_wp2_with (first | ((with_reducible refine gate_callee (f := 77) rfl ?_); refine goesL_ (some 56) rfl rfl Tryd.func77 (by kernel_rfl) rfl #[.int .u64 t191, .int .i64 x51_2] rfl (by (try simp only [List.map_toArray, List.map_cons, List.map_nil]); first | done | rfl | (simp only [List.length_drop, List.length_take]; rfl)) ?_; (with_reducible refine (network_Set_Has.calls t191 x51_2 false _ A49.out).mono ?_); rintro e w' ⟨rfl, ⟨nd, rfl⟩⟩; refine ⟨_, rfl, ?_⟩) | (go_at_call 77; (with_reducible refine (network_Set_Has.calls t210 x51_2 false _ A51.out).mono ?_); rintro e w' ⟨rfl, ⟨nd, rfl⟩⟩; have hnb56 := NB199_190.out; have hnc56 := NB190_199.out; have hcz57_0 : wr.cell? ⟨gb199, 0, none⟩ = some (.int .u64 t192) := (blk_cell BK199.out 0).trans rfl; have hcz57_1 : wr.cell? ⟨gb199, 1, none⟩ = some (.slice Ao12 t193.length co12) := (blk_cell BK199.out 1).trans rfl; have hcz57_2 : wr.cell? ⟨gb199, 2, none⟩ = some (.slice Ao14 t196.length co14) := (blk_cell BK199.out 2).trans rfl; have hfz57_0 := blk_frozen BK199.out 0; have hfz57_1 := blk_frozen BK199.out 1; have hfz57_2 := blk_frozen BK199.out 2; have p213 : 0 ≤ (x51_2 : Int) := of_decide_eq_true (by first | (with_reducible assumption) | assumption); have q213 : x51_2 < (t196.length : Int) := of_decide_eq_true (by first | (with_reducible assumption) | assumption); obtain ⟨ad213, e213, hx213_0⟩ := Kd.at_int (Kd.R_reads' HO_200002.out).2.2 x51_2 p213 q213; cases e213; replace p213 := eq_true p213; replace q213 := eq_true q213))
                    go_meet
                    case rel => exact ⟨_, (((Go.bits .and .u64 (rd t196 x51_2) t191) == 0)), (by first | rfl | (simp; done) | (simp [*]; done)), H', ⟨by have := HK1.out; have := HK2.out; first | omega | exact Nat.le_refl _⟩, ⟨zS HO_9⟩, ⟨zR HO_200001⟩, ⟨zR HO_200002⟩, ⟨zK BK190⟩, ⟨zK BK199⟩, ⟨zB HB⟩⟩
                  · rw [if_neg c55] at H
                    exact absurd H (by simp)
                · rw [if_neg c54] at H
                  exact absurd H (by simp)
              · rw [if_neg c53] at H
                have c53b0 : (a2 == 1) = false := beq_eq_false_iff_ne.mpr c53
                have c53b1 : (a2 != 1) = true := bne_iff_ne.mpr c53
                (first | rw [c53b0] | (simp only [i64_w, i32_w]; rw [c53b0]) | skip)
                have H' := Aside0.mk H
                clear H
                go_wp2_with (first | ((with_reducible refine gate_callee (f := 77) rfl ?_); refine goesL_ (some 56) rfl rfl Tryd.func77 (by kernel_rfl) rfl #[.int .u64 t191, .int .i64 x51_2] rfl (by (try simp only [List.map_toArray, List.map_cons, List.map_nil]); first | done | rfl | (simp only [List.length_drop, List.length_take]; rfl)) ?_; (with_reducible refine (network_Set_Has.calls t191 x51_2 false _ A49.out).mono ?_); rintro e w' ⟨rfl, ⟨nd, rfl⟩⟩; refine ⟨_, rfl, ?_⟩) | (go_at_call 77; (with_reducible refine (network_Set_Has.calls t210 x51_2 false _ A51.out).mono ?_); rintro e w' ⟨rfl, ⟨nd, rfl⟩⟩))
                go_meet
                case rel => exact ⟨_, (false), (by first | rfl | (simp; done) | (simp [*]; done)), H', ⟨by have := HK1.out; have := HK2.out; first | omega | exact Nat.le_refl _⟩, ⟨zS HO_9⟩, ⟨zR HO_200001⟩, ⟨zR HO_200002⟩, ⟨zK BK190⟩, ⟨zK BK199⟩, ⟨zB HB⟩⟩
         case rest =>
          clear HC48
          try clear c1
          try clear c2
          try clear p2
          try clear q2
          try clear hx2
          try clear c3
          try clear c4
          try clear c5
          try clear p6
          try clear c7
          try clear c16
          try clear c18
          try clear c18b0
          try clear c19
          try clear c19b0
          try clear c20
          try clear c20b0
          try clear p20
          try clear q20
          try clear hx20
          try clear p21
          try clear q21
          try clear hx21
          try clear c22
          try clear c24
          try clear c25
          try clear c27
          try clear c28
          try clear c35
          try clear c36
          try clear c39
          try clear c40
          try clear c43
          try clear c47
          try clear c47b0
          try clear c48
          try clear c49
          try clear c50
          try clear c52
          try clear c53
          try clear c53b0
          try clear c53b1
          try clear c54
          try clear c54b0
          try clear c55
          try clear c55b0
          try clear c56
          try clear hcz17_0
          try clear hcz17_1
          try clear hcz29_0
          try clear hcz29_1
          try clear hcz37_0
          try clear hcz37_1
          try clear hcz41_0
          try clear hcz41_1
          try clear hcz44_0
          try clear hcz44_1
          try clear hcz44_2
          try clear hcz46_0
          try clear hcz46_1
          try clear hcz57_0
          try clear hcz57_1
          try clear hcz57_2
          try clear hfz17_0
          try clear hfz17_1
          try clear hfz29_0
          try clear hfz29_1
          try clear hfz37_0
          try clear hfz37_1
          try clear hfz41_0
          try clear hfz41_1
          try clear hfz44_0
          try clear hfz44_1
          try clear hfz44_2
          try clear hfz46_0
          try clear hfz46_1
          try clear hfz57_0
          try clear hfz57_1
          try clear hfz57_2
          try clear hx200_0
          try clear hx200_1
          try clear hx213_0
          try clear p2
          try clear p20
          try clear p200
          try clear p213
          try clear p6
          try clear q2
          try clear q20
          try clear q200
          try clear q213
          obtain ⟨kq, x75_47, rfl, HA, HJ47, HO_9, HO_200001, HO_200002, BK190, BK199, HB⟩ := hcut
          cases kq with
          | zero => exact absurd HA.out (by simp [enforce_duties.j2])
          | succ kj47 =>
           have H := HA.out
           clear HA
           simp only [enforce_duties.j2] at H
           by_cases c58 : x75_47 = true
           · subst c58
             have H1 : (enforce_duties.l1 kj47 l1 a2 t191 x9_2 t210 a0_0 (wrap64 (x51_2 + 1)) t192 t193 t196) = some r := by rw [if_pos rfl] at H; exact H
             clear H
             have H := H1
             clear H1
             have H' := Aside0.mk H
             clear H
             go_wp2
             go_roundg kj47
             case measure => have := HK1.out; have := HK2.out; have := HJ47.out; omega
             case rel => exact ⟨(x9_2), (wrap64 (x51_2 + 1)), (by first | rfl | (simp; done) | (simp [*]; done)), H', ⟨by have := HK1.out; have := HK2.out; have := HJ47.out; omega⟩, ⟨zS HO_9⟩, ⟨zR HO_200001⟩, ⟨zR HO_200002⟩, ⟨zK BK190⟩, ⟨zK BK199⟩, ⟨zB HB⟩⟩
           · replace c58 := Bool.eq_false_iff.mpr c58
             subst c58
             have H1 : (enforce_duties.l2 kj47 l1 a2 t191 x9_2 t210 x51_2 ([] : List (S42)) a0_0 x51_2 l1 (l1.length : Int) 0 t192 t193 t196) = some r := by rw [if_neg (show ¬ (false = true) by decide)] at H; exact H
             clear H
             have H := H1
             clear H1
             have H' := Aside0.mk H
             clear H
             go_wp2
             go_loopg [14, 78] kj47 (fun kq v14 v78 w' => ∃ (x14_4 : List (S42)) (x78_4 : Int), v78 = .int .i64 x78_4 ∧ Aside0 (enforce_duties.l2 kq l1 a2 t191 x9_2 t210 x51_2 x14_4 a0_0 x51_2 l1 (l1.length : Int) x78_4 t192 t193 t196 = some r) ∧ Aside0 (kq ≤ kj47) ∧ Aside0 (Kd.S (Kd.slice 42 k42) 22 w' w.heap.size (fun k_ => some k_ ≠ (v14 : Value).ownBlock) u9 x9_2) ∧ Aside0 (Kd.R k42 42 w' w.heap.size (fun _ => True) v14 x14_4) ∧ Aside0 (Kd.R (Kd.int .u64) 76 w' w.heap.size (fun k_ => some k_ ≠ ((.slice Ao14 t196.length co14) : Value).ownBlock) (.slice Ao12 t193.length co12) t193) ∧ Aside0 (Kd.R (Kd.int .u64) 76 w' w.heap.size (fun k_ => some k_ ≠ ((.slice Ao12 t193.length co12) : Value).ownBlock) (.slice Ao14 t196.length co14) t196) ∧ Aside0 (w'.heap[gb190]? = some (.cells #[.int .i64 a0_0, (.slice A0_1 l0_1.length c0_1)] 24 (0, 0))) ∧ Aside0 (w'.heap[gb199]? = some (.cells #[.int .u64 t192, (.slice Ao12 t193.length co12), (.slice Ao14 t196.length co14)] 80 (0, 0))) ∧ Aside0 (Below w.heap.size w w'))
             case atStart => exact ⟨(([] : List (S42))), (0), (by first | rfl | (simp; done) | (simp [*]; done)), H', ⟨Nat.le_refl _⟩, ⟨by (with_reducible repeat (first | apply Kd.S_alloc | apply Kd.S_drewN | apply Kd.S_drew)); exact Kd.S_mono HO_9.out (fun _ hk => (by simp [Value.ownBlock]))⟩, ⟨by first | exact Kd.R_nil _ _ _ _ _ | exact Kd.N_nil _ _ _ _ _ | exact Kd.V_nil _ _ _ _ _ | exact Kd.Q_nil _ _ _ _ _ | exact Kd.S_nil _ _ _ _ _ | exact Kd.R_nil _ _ _ 0 _⟩, ⟨zR HO_200001⟩, ⟨zR HO_200002⟩, ⟨zK BK190⟩, ⟨zK BK199⟩, ⟨zB HB⟩⟩
             case round =>
              clear H'
              try clear c1
              try clear c2
              try clear p2
              try clear q2
              try clear hx2
              try clear c3
              try clear c4
              try clear c5
              try clear p6
              try clear c7
              try clear c16
              try clear c18
              try clear c18b0
              try clear c19
              try clear c19b0
              try clear c20
              try clear c20b0
              try clear p20
              try clear q20
              try clear hx20
              try clear p21
              try clear q21
              try clear hx21
              try clear c22
              try clear c24
              try clear c25
              try clear c27
              try clear c28
              try clear c35
              try clear c36
              try clear c39
              try clear c40
              try clear c43
              try clear c47
              try clear c47b0
              try clear c48
              try clear c49
              try clear c50
              try clear c52
              try clear c53
              try clear c53b0
              try clear c53b1
              try clear c54
              try clear c54b0
              try clear c55
              try clear c55b0
              try clear c56
              try clear c58
              try clear hcz17_0
              try clear hcz17_1
              try clear hcz29_0
              try clear hcz29_1
              try clear hcz37_0
              try clear hcz37_1
              try clear hcz41_0
              try clear hcz41_1
              try clear hcz44_0
              try clear hcz44_1
              try clear hcz44_2
              try clear hcz46_0
              try clear hcz46_1
              try clear hcz57_0
              try clear hcz57_1
              try clear hcz57_2
              try clear hfz17_0
              try clear hfz17_1
              try clear hfz29_0
              try clear hfz29_1
              try clear hfz37_0
              try clear hfz37_1
              try clear hfz41_0
              try clear hfz41_1
              try clear hfz44_0
              try clear hfz44_1
              try clear hfz44_2
              try clear hfz46_0
              try clear hfz46_1
              try clear hfz57_0
              try clear hfz57_1
              try clear hfz57_2
              try clear hx200_0
              try clear hx200_1
              try clear hx213_0
              try clear p2
              try clear p20
              try clear p200
              try clear p21
              try clear p213
              try clear p6
              try clear q2
              try clear q20
              try clear q200
              try clear q21
              try clear q213
              obtain ⟨x14_4, x78_4, rfl, HA, HK4, HO_9, HO_14, HO_200001, HO_200002, BK190, BK199, HB⟩ := hrel
              cases gk with
              | zero => exact absurd HA.out (by simp [enforce_duties.l2])
              | succ k4 =>
               have H := HA.out
               clear HA
               simp only [enforce_duties.l2] at H
               by_cases c59 : x78_4 < (l1.length : Int)
               · rw [if_pos c59] at H
                 have c59b0 : decide (x78_4 < (l1.length : Int)) = true := decide_eq_true c59
                 clear c59
                 by_cases c60 : 0 ≤ x78_4
                 · rw [if_pos c60] at H
                   have c60b0 : decide (0 ≤ x78_4) = true := decide_eq_true c60
                   clear c60
                   by_cases c61 : x78_4 < (l1.length : Int)
                   · rw [if_pos c61] at H
                     have c61b0 : decide (x78_4 < (l1.length : Int)) = true := decide_eq_true c61
                     clear c61
                     by_cases c62 : x14_4.length < 8796093022208
                     · rw [if_pos c62] at H
                       have LMc62 := Aside0.mk c62
                       clear c62
                       obtain ⟨y215, hy215⟩ : ∃ y_ : List (S42), y_ = (x14_4 ++ [(⟨rd l1 x78_4, x51_2⟩ : S42)]) := ⟨_, rfl⟩
                       replace H : (enforce_duties.l2 k4 l1 a2 t191 x9_2 t210 x51_2 y215 a0_0 x51_2 l1 (l1.length : Int) (wrap64 (x78_4 + 1)) t192 t193 t196) = some r := by first | (rw [hy215]; with_reducible exact H) | (have H2_ := (Option.bind_some _ _).symm.trans H; rw [hy215]; with_reducible exact H2_) | (have H2_ := (Option.bind_some _ _).symm.trans H; with_reducible exact H2_) | with_reducible exact H | (rw [hy215]; exact H) | exact H
                       have Ny215 := Aside0.mk hy215
                       clear hy215
                       have H' := Aside0.mk H
                       clear H
                       have p214 : 0 ≤ (x78_4 : Int) := of_decide_eq_true (by first | (with_reducible assumption) | assumption)
                       have q214 : x78_4 < (l1.length : Int) := of_decide_eq_true (by first | (with_reducible assumption) | assumption)
                       obtain ⟨ad214, e214, hx214_0⟩ := Kd.at_int HR1.out x78_4 p214 q214
                       cases e214
                       replace hx214_0 := (HB.out.cell (World.block_lt_of_cell? w _ hx214_0)).trans hx214_0
                       replace p214 := eq_true p214
                       replace q214 := eq_true q214
                       go_wp2_with (first | ((with_reducible refine gate_builtin (b := .append) (xs := #[.tmp 82, .tmp 86]) rfl ?_); at_builtin; refine Kd.R_append k42 (w0 := w) w.heap.size rfl (.tmp 82) (.tmp 86) 22 42 (.agg #[(.int .i64 0), (.int .i64 0)]) 16 rfl Tryd.underlying22 info42 rfl (by decide) (by omega) u14 x14_4 (⟨rd l1 x78_4, x51_2⟩ : S42) [.int .i64 (rd l1 x78_4), .int .i64 x51_2] (fun _ => True) (fun _ => False) rfl rfl ?aP (fun _ hk => hk.elim) ?aF ?aO ?aB ?aS ?aL ?_; (case aP => exact k42_mkM _ _ _ (⟨rd l1 x78_4, x51_2⟩ : S42)); (case aB => exact (zB HB)); (case aF => exact (fun _ _ => trivial)); (case aO => exact (zR HO_14)); (case aS => exact (below_size (zB HB))); (case aL => have := LMc62.out; omega); intro v216 w63 ho hb hg hat; rw [← Ny215.out] at ho; have n0_ := Aside0.mk (Kd.S_after (ok := (fun _ => True)) (by (with_reducible repeat (first | apply Kd.S_alloc | apply Kd.S_drewN | apply Kd.S_drew)); exact Kd.S_mono HO_9.out (fun _ hk => ⟨trivial, hk⟩)) hg hat); have n1_ := Aside0.mk (Kd.R_over' (zR HO_200001) (Kd.R_typed (zR HO_14)) (by decide) hg); have n2_ := Aside0.mk (Kd.R_over' (zR HO_200002) (Kd.R_typed (zR HO_14)) (by decide) hg); have n3_ := Aside0.mk (blk_grown (g := gb190) (o := .cells #[.int .i64 a0_0, .slice A0_1 l0_1.length c0_1] 24 (0, 0)) (zK BK190) hg (Kd.R_ne HO_14.out BK190.out (by decide))); have n4_ := Aside0.mk (blk_grown (g := gb199) (o := .cells #[.int .u64 t192, .slice Ao12 t193.length co12, .slice Ao14 t196.length co14] 80 (0, 0)) (zK BK199) hg (Kd.R_ne HO_14.out BK199.out (by decide))); have n5_ := Aside0.mk (hb); have n6_ := Aside0.mk (ho); clear HO_9; clear HO_200001; clear HO_200002; clear BK190; clear BK199; clear HB; clear HO_14; have HO_9 := n0_; have HO_200001 := n1_; have HO_200002 := n2_; have BK190 := n3_; have BK199 := n4_; have HB := n5_; have HO217 := n6_; clear n0_ n1_ n2_ n3_ n4_ n5_ n6_; clear ho hb hg hat))
                       go_roundg k4
                       case measure => have := HK1.out; have := HK2.out; have := HJ47.out; have := HK4.out; omega
                       case rel => exact ⟨(y215), (wrap64 (x78_4 + 1)), (by first | rfl | (simp; done) | (simp [*]; done)), H', ⟨by have := HK1.out; have := HK2.out; have := HJ47.out; have := HK4.out; omega⟩, ⟨by (with_reducible repeat (first | apply Kd.S_alloc | apply Kd.S_drewN | apply Kd.S_drew)); exact Kd.S_mono HO_9.out (fun _ hk => hk.2)⟩, ⟨zR HO217⟩, ⟨zR HO_200001⟩, ⟨zR HO_200002⟩, ⟨zK BK190⟩, ⟨zK BK199⟩, ⟨zB HB⟩⟩
                     · rw [if_neg c62] at H
                       exact absurd H (by simp)
                   · rw [if_neg c61] at H
                     exact absurd H (by simp)
                 · rw [if_neg c60] at H
                   exact absurd H (by simp)
               · rw [if_neg c59] at H
                 have c59b0 : decide (x78_4 < (l1.length : Int)) = false := decide_eq_false c59
                 clear c59
                 by_cases c64 : a2 = 1
                 · rw [if_pos c64] at H
                   have c64b0 : (a2 == 1) = true := beq_iff_eq.mpr c64
                   have c64b1 : (a2 != 1) = false := bne_eq_false_iff_eq.mpr c64
                   clear c64
                   by_cases c65 : 0 ≤ x51_2
                   · rw [if_pos c65] at H
                     have c65b0 : decide (0 ≤ x51_2) = true := decide_eq_true c65
                     clear c65
                     by_cases c66 : x51_2 < (t196.length : Int)
                     · rw [if_pos c66] at H
                       have c66b0 : decide (x51_2 < (t196.length : Int)) = true := decide_eq_true c66
                       clear c66
                       replace H := Option.bind_eq_some_iff.mp H
                       obtain ⟨t219, A670, H⟩ := H
                       replace H : (enforce_duties.l3 k4 l1 a2 t191 x9_2 t210 x51_2 x14_4 a0_0 x51_2 t219 (t219.length : Int) 0 t192 t193 t196) = some r := H
                       have A67 := Aside0.mk A670
                       clear A670
                       have H' := Aside0.mk H
                       clear H
                       have hnb68 := NB199_190.out
                       have hnc68 := NB190_199.out
                       have hcz69_0 : wr.cell? ⟨gb199, 0, none⟩ = some (.int .u64 t192) := (blk_cell BK199.out 0).trans rfl
                       have hcz69_1 : wr.cell? ⟨gb199, 1, none⟩ = some (.slice Ao12 t193.length co12) := (blk_cell BK199.out 1).trans rfl
                       have hcz69_2 : wr.cell? ⟨gb199, 2, none⟩ = some (.slice Ao14 t196.length co14) := (blk_cell BK199.out 2).trans rfl
                       have hfz69_0 := blk_frozen BK199.out 0
                       have hfz69_1 := blk_frozen BK199.out 1
                       have hfz69_2 := blk_frozen BK199.out 2
                       have p218 : 0 ≤ (x51_2 : Int) := of_decide_eq_true (by first | (with_reducible assumption) | assumption)
                       have q218 : x51_2 < (t196.length : Int) := of_decide_eq_true (by first | (with_reducible assumption) | assumption)
                       obtain ⟨ad218, e218, hx218_0⟩ := Kd.at_int (Kd.R_reads' HO_200002.out).2.2 x51_2 p218 q218
                       cases e218
                       replace p218 := eq_true p218
                       replace q218 := eq_true q218
                       go_wp2_with (first | ((with_reducible refine gate_callee (f := 50) rfl ?_); refine goesL_ (some 98) rfl rfl Tryd.func50 (by kernel_rfl) rfl #[.int .u64 (Go.bits .and .u64 (rd t196 x51_2) t191)] rfl (by (try simp only [List.map_toArray, List.map_cons, List.map_nil]); first | done | rfl | (simp only [List.length_drop, List.length_take]; rfl)) ?_; (with_reducible refine (network_Set_List.calls k4 (Go.bits .and .u64 (rd t196 x51_2) t191) t219 _ ?side1 A67.out).mono ?_); (case side1 => exact TabT.now HTab.out (zB HB)); rintro e w70 ⟨v220, rfl, ho0, hb⟩; refine ⟨_, rfl, ?_⟩; have n0_ := Aside0.mk (Kd.S_below (zS HO_9) hb); have n1_ := Aside0.mk (Kd.R_below (zR HO_14) hb); have n2_ := Aside0.mk (Kd.R_below (zR HO_200001) hb); have n3_ := Aside0.mk (Kd.R_below (zR HO_200002) hb); have n4_ := Aside0.mk (Kd.R_lower ho0 (below_size (zB HB))); have n5_ := Aside0.mk (blk_below (g := gb190) (o := .cells #[.int .i64 a0_0, .slice A0_1 l0_1.length c0_1] 24 (0, 0)) (zK BK190) hb); have n6_ := Aside0.mk (blk_below (g := gb199) (o := .cells #[.int .u64 t192, .slice Ao12 t193.length co12, .slice (some ad218) t196.length co14] 80 (0, 0)) (zK BK199) hb); have n7_ := Aside0.mk (below_step (zB HB) hb); clear HO_9; clear HO_14; clear HO_200001; clear HO_200002; clear BK190; clear BK199; clear HB; have HO_9 := n0_; have HO_14 := n1_; have HO_200001 := n2_; have HO_200002 := n3_; have HO221 := n4_; have BK190 := n5_; have BK199 := n6_; have HB := n7_; clear n0_ n1_ n2_ n3_ n4_ n5_ n6_ n7_; (try clear hb); (try clear hb2); (try clear hk); (try clear hi); (try clear ho0); obtain ⟨Ao71, co71, eo71⟩ := Kd.R_slice HO221.out; subst eo71))
                       go_loopg [14, 100] k4 (fun kq v14 v100 w' => ∃ (x14_5 : List (S42)) (x100_5 : Int), v100 = .int .i64 x100_5 ∧ Aside0 (enforce_duties.l3 kq l1 a2 t191 x9_2 t210 x51_2 x14_5 a0_0 x51_2 t219 (t219.length : Int) x100_5 t192 t193 t196 = some r) ∧ Aside0 (kq ≤ k4) ∧ Aside0 (Kd.S (Kd.slice 42 k42) 22 w' w.heap.size (fun k_ => some k_ ≠ (v14 : Value).ownBlock) u9 x9_2) ∧ Aside0 (Kd.R k42 42 w' w.heap.size (fun _ => True) v14 x14_5) ∧ Aside0 (Kd.R (Kd.int .i64) 3 w' w.heap.size (fun _ => True) (.slice Ao71 t219.length co71) t219) ∧ Aside0 (Kd.R (Kd.int .u64) 76 w' w.heap.size (fun k_ => some k_ ≠ ((.slice (some ad218) t196.length co14) : Value).ownBlock) (.slice Ao12 t193.length co12) t193) ∧ Aside0 (Kd.R (Kd.int .u64) 76 w' w.heap.size (fun k_ => some k_ ≠ ((.slice Ao12 t193.length co12) : Value).ownBlock) (.slice (some ad218) t196.length co14) t196) ∧ Aside0 (w'.heap[gb190]? = some (.cells #[.int .i64 a0_0, (.slice A0_1 l0_1.length c0_1)] 24 (0, 0))) ∧ Aside0 (w'.heap[gb199]? = some (.cells #[.int .u64 t192, (.slice Ao12 t193.length co12), (.slice (some ad218) t196.length co14)] 80 (0, 0))) ∧ Aside0 (Below w.heap.size w w'))
                       case atStart => exact ⟨(x14_4), (0), (by first | rfl | (simp; done) | (simp [*]; done)), H', ⟨Nat.le_refl _⟩, ⟨zS HO_9⟩, ⟨zR HO_14⟩, ⟨zR HO221⟩, ⟨zR HO_200001⟩, ⟨zR HO_200002⟩, ⟨zK BK190⟩, ⟨zK BK199⟩, ⟨zB HB⟩⟩
                       case round =>
                        clear H'
                        try clear c1
                        try clear c2
                        try clear p2
                        try clear q2
                        try clear hx2
                        try clear c3
                        try clear c4
                        try clear c5
                        try clear c6
                        try clear p6
                        try clear c7
                        try clear c16
                        try clear c18
                        try clear c18b0
                        try clear c19
                        try clear c19b0
                        try clear c20
                        try clear c20b0
                        try clear p20
                        try clear q20
                        try clear hx20
                        try clear p21
                        try clear q21
                        try clear hx21
                        try clear c22
                        try clear c24
                        try clear c25
                        try clear c27
                        try clear c28
                        try clear c35
                        try clear c36
                        try clear c39
                        try clear c40
                        try clear c43
                        try clear c47
                        try clear c47b0
                        try clear c48
                        try clear c49
                        try clear c50
                        try clear c52
                        try clear c53
                        try clear c53b0
                        try clear c53b1
                        try clear c54
                        try clear c54b0
                        try clear c55
                        try clear c55b0
                        try clear c56
                        try clear c58
                        try clear c59
                        try clear c59b0
                        try clear c60
                        try clear c60b0
                        try clear c61
                        try clear c61b0
                        try clear c62
                        try clear c64
                        try clear c64b0
                        try clear c64b1
                        try clear p64
                        try clear c65
                        try clear c65b0
                        try clear c66
                        try clear c66b0
                        try clear c68
                        try clear hcz17_0
                        try clear hcz17_1
                        try clear hcz29_0
                        try clear hcz29_1
                        try clear hcz37_0
                        try clear hcz37_1
                        try clear hcz41_0
                        try clear hcz41_1
                        try clear hcz44_0
                        try clear hcz44_1
                        try clear hcz44_2
                        try clear hcz46_0
                        try clear hcz46_1
                        try clear hcz57_0
                        try clear hcz57_1
                        try clear hcz57_2
                        try clear hcz69_0
                        try clear hcz69_1
                        try clear hcz69_2
                        try clear hfz17_0
                        try clear hfz17_1
                        try clear hfz29_0
                        try clear hfz29_1
                        try clear hfz37_0
                        try clear hfz37_1
                        try clear hfz41_0
                        try clear hfz41_1
                        try clear hfz44_0
                        try clear hfz44_1
                        try clear hfz44_2
                        try clear hfz46_0
                        try clear hfz46_1
                        try clear hfz57_0
                        try clear hfz57_1
                        try clear hfz57_2
                        try clear hfz69_0
                        try clear hfz69_1
                        try clear hfz69_2
                        try clear hx200_0
                        try clear hx200_1
                        try clear hx213_0
                        try clear hx214_0
                        try clear hx218_0
                        try clear p2
                        try clear p20
                        try clear p200
                        try clear p21
                        try clear p213
                        try clear p214
                        try clear p218
                        try clear p6
                        try clear q2
                        try clear q20
                        try clear q200
                        try clear q21
                        try clear q213
                        try clear q214
                        try clear q218
                        obtain ⟨x14_5, x100_5, rfl, HA, HK5, HO_9, HO_14, HO_98, HO_200001, HO_200002, BK190, BK199, HB⟩ := hrel
                        cases gk with
                        | zero => exact absurd HA.out (by simp [enforce_duties.l3])
                        | succ k5 =>
                         have H := HA.out
                         clear HA
                         simp only [enforce_duties.l3] at H
                         by_cases c72 : x100_5 < (t219.length : Int)
                         · rw [if_pos c72] at H
                           have c72b0 : decide (x100_5 < (t219.length : Int)) = true := decide_eq_true c72
                           clear c72
                           by_cases c73 : 0 ≤ x100_5
                           · rw [if_pos c73] at H
                             have c73b0 : decide (0 ≤ x100_5) = true := decide_eq_true c73
                             clear c73
                             by_cases c74 : x100_5 < (t219.length : Int)
                             · rw [if_pos c74] at H
                               have c74b0 : decide (x100_5 < (t219.length : Int)) = true := decide_eq_true c74
                               clear c74
                               by_cases c75 : x14_5.length < 8796093022208
                               · rw [if_pos c75] at H
                                 have LMc75 := Aside0.mk c75
                                 clear c75
                                 obtain ⟨y223, hy223⟩ : ∃ y_ : List (S42), y_ = (x14_5 ++ [(⟨x51_2, rd t219 x100_5⟩ : S42)]) := ⟨_, rfl⟩
                                 replace H : (enforce_duties.l3 k5 l1 a2 t191 x9_2 t210 x51_2 y223 a0_0 x51_2 t219 (t219.length : Int) (wrap64 (x100_5 + 1)) t192 t193 t196) = some r := by first | (rw [hy223]; with_reducible exact H) | (have H2_ := (Option.bind_some _ _).symm.trans H; rw [hy223]; with_reducible exact H2_) | (have H2_ := (Option.bind_some _ _).symm.trans H; with_reducible exact H2_) | with_reducible exact H | (rw [hy223]; exact H) | exact H
                                 have Ny223 := Aside0.mk hy223
                                 clear hy223
                                 have H' := Aside0.mk H
                                 clear H
                                 have p222 : 0 ≤ (x100_5 : Int) := of_decide_eq_true (by first | (with_reducible assumption) | assumption)
                                 have q222 : x100_5 < (t219.length : Int) := of_decide_eq_true (by first | (with_reducible assumption) | assumption)
                                 obtain ⟨ad222, e222, hx222_0⟩ := Kd.at_int (Kd.R_reads' HO_98.out).2.2 x100_5 p222 q222
                                 cases e222
                                 replace p222 := eq_true p222
                                 replace q222 := eq_true q222
                                 go_wp2_with (first | ((with_reducible refine gate_builtin (b := .append) (xs := #[.tmp 104, .tmp 108]) rfl ?_); at_builtin; refine Kd.R_append k42 (w0 := w) w.heap.size rfl (.tmp 104) (.tmp 108) 22 42 (.agg #[(.int .i64 0), (.int .i64 0)]) 16 rfl Tryd.underlying22 info42 rfl (by decide) (by omega) u14 x14_5 (⟨x51_2, rd t219 x100_5⟩ : S42) [.int .i64 x51_2, .int .i64 (rd t219 x100_5)] (fun _ => True) (fun _ => False) rfl rfl ?aP (fun _ hk => hk.elim) ?aF ?aO ?aB ?aS ?aL ?_; (case aP => exact k42_mkM _ _ _ (⟨x51_2, rd t219 x100_5⟩ : S42)); (case aB => exact (zB HB)); (case aF => exact (fun _ _ => trivial)); (case aO => exact (zR HO_14)); (case aS => exact (below_size (zB HB))); (case aL => have := LMc75.out; omega); intro v224 w76 ho hb hg hat; rw [← Ny223.out] at ho; have n0_ := Aside0.mk (Kd.S_after (ok := (fun _ => True)) (by (with_reducible repeat (first | apply Kd.S_alloc | apply Kd.S_drewN | apply Kd.S_drew)); exact Kd.S_mono HO_9.out (fun _ hk => ⟨trivial, hk⟩)) hg hat); have n1_ := Aside0.mk (Kd.R_over' (zR HO_98) (Kd.R_typed (zR HO_14)) (by decide) hg); have n2_ := Aside0.mk (Kd.R_over' (zR HO_200001) (Kd.R_typed (zR HO_14)) (by decide) hg); have n3_ := Aside0.mk (Kd.R_over' (zR HO_200002) (Kd.R_typed (zR HO_14)) (by decide) hg); have n4_ := Aside0.mk (blk_grown (g := gb190) (o := .cells #[.int .i64 a0_0, .slice A0_1 l0_1.length c0_1] 24 (0, 0)) (zK BK190) hg (Kd.R_ne HO_14.out BK190.out (by decide))); have n5_ := Aside0.mk (blk_grown (g := gb199) (o := .cells #[.int .u64 t192, .slice Ao12 t193.length co12, .slice (some ad218) t196.length co14] 80 (0, 0)) (zK BK199) hg (Kd.R_ne HO_14.out BK199.out (by decide))); have n6_ := Aside0.mk (hb); have n7_ := Aside0.mk (ho); clear HO_9; clear HO_98; clear HO_200001; clear HO_200002; clear BK190; clear BK199; clear HB; clear HO_14; have HO_9 := n0_; have HO_98 := n1_; have HO_200001 := n2_; have HO_200002 := n3_; have BK190 := n4_; have BK199 := n5_; have HB := n6_; have HO225 := n7_; clear n0_ n1_ n2_ n3_ n4_ n5_ n6_ n7_; clear ho hb hg hat))
                                 go_roundg k5
                                 case measure => have := HK1.out; have := HK2.out; have := HJ47.out; have := HK4.out; have := HK5.out; omega
                                 case rel => exact ⟨(y223), (wrap64 (x100_5 + 1)), (by first | rfl | (simp; done) | (simp [*]; done)), H', ⟨by have := HK1.out; have := HK2.out; have := HJ47.out; have := HK4.out; have := HK5.out; omega⟩, ⟨by (with_reducible repeat (first | apply Kd.S_alloc | apply Kd.S_drewN | apply Kd.S_drew)); exact Kd.S_mono HO_9.out (fun _ hk => hk.2)⟩, ⟨zR HO225⟩, ⟨zR HO_98⟩, ⟨zR HO_200001⟩, ⟨zR HO_200002⟩, ⟨zK BK190⟩, ⟨zK BK199⟩, ⟨zB HB⟩⟩
                               · rw [if_neg c75] at H
                                 exact absurd H (by simp)
                             · rw [if_neg c74] at H
                               exact absurd H (by simp)
                           · rw [if_neg c73] at H
                             exact absurd H (by simp)
                         · rw [if_neg c72] at H
                           have c72b0 : decide (x100_5 < (t219.length : Int)) = false := decide_eq_false c72
                           clear c72
                           replace H := Option.bind_eq_some_iff.mp H
                           obtain ⟨t226, A770, H⟩ := H
                           replace H : (if x9_2.length < 5864062014805 then (enforce_duties.l1 k5 l1 a2 t191 (x9_2 ++ [t226]) t210 a0_0 (wrap64 (x51_2 + 1)) t192 t193 t196) else (none)) = some r := H
                           have A77 := Aside0.mk A770
                           clear A770
                           by_cases c78 : x9_2.length < 5864062014805
                           · rw [if_pos c78] at H
                             have LMc78 := Aside0.mk c78
                             clear c78
                             obtain ⟨y227, hy227⟩ : ∃ y_ : List (List (S42)), y_ = (x9_2 ++ [t226]) := ⟨_, rfl⟩
                             replace H : (enforce_duties.l1 k5 l1 a2 t191 y227 t210 a0_0 (wrap64 (x51_2 + 1)) t192 t193 t196) = some r := by first | (rw [hy227]; with_reducible exact H) | (have H2_ := (Option.bind_some _ _).symm.trans H; rw [hy227]; with_reducible exact H2_) | (have H2_ := (Option.bind_some _ _).symm.trans H; with_reducible exact H2_) | with_reducible exact H | (rw [hy227]; exact H) | exact H
                             have Ny227 := Aside0.mk hy227
                             clear hy227
                             have H' := Aside0.mk H
                             clear H
                             obtain ⟨Ao79, co79, eo79⟩ := Kd.R_slice HO_14.out
                             subst eo79
                             go_wp2_with (first | ((with_reducible refine gate_callee (f := 42) rfl ?_); refine goesL_ (some 112) rfl rfl Tryd.func42 (by kernel_rfl) rfl #[.slice Ao79 x14_5.length co79, .func (.func 43) #[] #[]] rfl (by (try simp only [List.map_toArray, List.map_cons, List.map_nil]); first | done | rfl | (simp only [List.length_drop, List.length_take]; rfl)) ?_; (with_reducible refine (api_Pair_42.calls (fun k_ => some k_ = (.slice Ao79 x14_5.length co79 : Value).ownBlock) (.slice Ao79 x14_5.length co79) x14_5  t226 w _ ?side1 ?side2 A77.out).mono ?_); (case side1 => repeat (first | (with_reducible first | exact HB.out | apply below_alloc | apply pw_below_drewN | apply below_drew1 | refine below_set ?_ GE190.out | refine below_set ?_ GE199.out) | exact HB.out)); (case side2 => exact Kd.R_tight rfl HO_14.out); rintro e w80 ⟨rfl, hy0, hb, hkp⟩; refine ⟨_, rfl, ?_⟩; have n0_ := Aside0.mk (Kd.S_mono (ok' := fun k_ => some k_ ≠ (.slice Ao79 x14_5.length co79 : Value).ownBlock) (Kd.S_keptB (HO_9.out) hkp (fun k_ hk_ hs_ => (hk_) hs_)) (fun k_ hk_ => hk_.1)); have n1_ := Aside0.mk (Kd.R_reok rfl hy0 (fun k_ e_ => HO_14.out.1 k_ e_)); have n2_ := Aside0.mk (Kd.R_mono (ok' := fun k_ => True) (Kd.R_keptB ((Kd.R_apart' HO_98.out (Kd.R_typed HO_14.out) (by decide))) hkp (fun k_ hk_ hs_ => (hk_.2) hs_)) (fun k_ hk_ => trivial)); have n3_ := Aside0.mk (Kd.R_mono (ok' := fun k_ => some k_ ≠ (.slice (some ad218) t196.length co14 : Value).ownBlock) (Kd.R_keptB ((Kd.R_apart' HO_200001.out (Kd.R_typed HO_14.out) (by decide))) hkp (fun k_ hk_ hs_ => (hk_.2) hs_)) (fun k_ hk_ => hk_.1.1)); have n4_ := Aside0.mk (Kd.R_mono (ok' := fun k_ => some k_ ≠ (.slice Ao12 t193.length co12 : Value).ownBlock) (Kd.R_keptB ((Kd.R_apart' HO_200002.out (Kd.R_typed HO_14.out) (by decide))) hkp (fun k_ hk_ hs_ => (hk_.2) hs_)) (fun k_ hk_ => hk_.1.1)); have n5_ := Aside0.mk (blk_kept (zK BK190) hkp (fun hs_ => (fun e_ => (Kd.R_ne HO_14.out BK190.out (by decide)) e_) hs_)); have n6_ := Aside0.mk (blk_kept (zK BK199) hkp (fun hs_ => (fun e_ => (Kd.R_ne HO_14.out BK199.out (by decide)) e_) hs_)); have n7_ := Aside0.mk (hb); clear HO_9; clear HO_14; clear HO_98; clear HO_200001; clear HO_200002; clear BK190; clear BK199; clear HB; have HO_9 := n0_; have HO_14 := n1_; have HO_98 := n2_; have HO_200001 := n3_; have HO_200002 := n4_; have BK190 := n5_; have BK199 := n6_; have HB := n7_; clear n0_ n1_ n2_ n3_ n4_ n5_ n6_ n7_; (try clear hb); (try clear hkp); (try clear hy0)) | ((with_reducible refine gate_builtin (b := .append) (xs := #[.tmp 113, .tmp 115]) rfl ?_); at_builtin; refine Kd.S_append (Kd.slice 42 k42) (w0 := w) w.heap.size rfl (.tmp 113) (.tmp 115) 26 22 (.slice none 0 0) 24 rfl Tryd.underlying26 info22 rfl (by decide) (by omega) u9 x9_2 t226 [.slice Ao79 x14_5.length co79] (fun _ => True) (fun k_ => some k_ = (.slice Ao79 x14_5.length co79 : Value).ownBlock) rfl rfl ?aP (fun k_ hk_ => ((Kd.R_mono (ok' := fun k_ => ((fun _ => True)) k_ ∧ some k_ ≠ (u9 : Value).ownBlock) (Kd.R_apart' (HO_14.out) (Kd.S_typed HO_9.out) (by decide)) (fun k_ hk => ⟨trivial, hk.2⟩))).1 k_ hk_.symm) ?aF ?aO ?aB ?aS ?aL ?_; (case aP => exact Kd.M_row (Kd.R_mono (Kd.R_tight rfl (Kd.R_mono (ok' := fun k_ => ((fun _ => True)) k_ ∧ some k_ ≠ (u9 : Value).ownBlock) (Kd.R_apart' (HO_14.out) (Kd.S_typed HO_9.out) (by decide)) (fun k_ hk => ⟨trivial, hk.2⟩))) (fun _ h_ => h_))); (case aB => exact (zB HB)); (case aF => exact (fun _ _ => trivial)); (case aO => exact (by (with_reducible repeat (first | apply Kd.S_alloc | apply Kd.S_drewN | apply Kd.S_drew)); exact Kd.S_mono HO_9.out (fun k_ hk => ⟨trivial, fun e_ => hk e_⟩))); (case aS => exact (below_size (zB HB))); (case aL => have := LMc78.out; omega); intro v228 w81 ho hb hg hat; rw [← Ny227.out] at ho; have n0_ := Aside0.mk (Kd.R_over' (zR HO_98) (Kd.S_typed (zS HO_9)) (by decide) hg); have n1_ := Aside0.mk (Kd.R_over' (zR HO_200001) (Kd.S_typed (zS HO_9)) (by decide) hg); have n2_ := Aside0.mk (Kd.R_over' (zR HO_200002) (Kd.S_typed (zS HO_9)) (by decide) hg); have n3_ := Aside0.mk (blk_grown (g := gb190) (o := .cells #[.int .i64 a0_0, .slice A0_1 l0_1.length c0_1] 24 (0, 0)) (zK BK190) hg (Kd.S_ne HO_9.out BK190.out (by decide))); have n4_ := Aside0.mk (blk_grown (g := gb199) (o := .cells #[.int .u64 t192, .slice Ao12 t193.length co12, .slice (some ad218) t196.length co14] 80 (0, 0)) (zK BK199) hg (Kd.S_ne HO_9.out BK199.out (by decide))); have n5_ := Aside0.mk (hb); have n6_ := Aside0.mk (ho); clear HO_98; clear HO_200001; clear HO_200002; clear BK190; clear BK199; clear HB; clear HO_9; clear HO_14; have HO_98 := n0_; have HO_200001 := n1_; have HO_200002 := n2_; have BK190 := n3_; have BK199 := n4_; have HB := n5_; have HO229 := n6_; clear n0_ n1_ n2_ n3_ n4_ n5_ n6_; clear ho hb hg hat))
                             go_roundg k5
                             case measure => have := HK1.out; have := HK2.out; have := HJ47.out; have := HK4.out; have := HK5.out; omega
                             case rel => exact ⟨(y227), (wrap64 (x51_2 + 1)), (by first | rfl | (simp; done) | (simp [*]; done)), H', ⟨by have := HK1.out; have := HK2.out; have := HJ47.out; have := HK4.out; have := HK5.out; omega⟩, ⟨zS HO229⟩, ⟨zR HO_200001⟩, ⟨zR HO_200002⟩, ⟨zK BK190⟩, ⟨zK BK199⟩, ⟨zB HB⟩⟩
                           · rw [if_neg c78] at H
                             exact absurd H (by simp)
                     · rw [if_neg c66] at H
                       exact absurd H (by simp)
                   · rw [if_neg c65] at H
                     exact absurd H (by simp)
                 · rw [if_neg c64] at H
                   have c64b0 : (a2 == 1) = false := beq_eq_false_iff_ne.mpr c64
                   have c64b1 : (a2 != 1) = true := bne_iff_ne.mpr c64
                   replace H := Option.bind_eq_some_iff.mp H
                   obtain ⟨t230, A820, H⟩ := H
                   replace H : (if x9_2.length < 5864062014805 then (enforce_duties.l1 k4 l1 a2 t191 (x9_2 ++ [t230]) t210 a0_0 (wrap64 (x51_2 + 1)) t192 t193 t196) else (none)) = some r := H
                   have A82 := Aside0.mk A820
                   clear A820
                   by_cases c83 : x9_2.length < 5864062014805
                   · rw [if_pos c83] at H
                     have LMc83 := Aside0.mk c83
                     clear c83
                     obtain ⟨y231, hy231⟩ : ∃ y_ : List (List (S42)), y_ = (x9_2 ++ [t230]) := ⟨_, rfl⟩
                     replace H : (enforce_duties.l1 k4 l1 a2 t191 y231 t210 a0_0 (wrap64 (x51_2 + 1)) t192 t193 t196) = some r := by first | (rw [hy231]; with_reducible exact H) | (have H2_ := (Option.bind_some _ _).symm.trans H; rw [hy231]; with_reducible exact H2_) | (have H2_ := (Option.bind_some _ _).symm.trans H; with_reducible exact H2_) | with_reducible exact H | (rw [hy231]; exact H) | exact H
                     have Ny231 := Aside0.mk hy231
                     clear hy231
                     have H' := Aside0.mk H
                     clear H
                     obtain ⟨Ao84, co84, eo84⟩ := Kd.R_slice HO_14.out
                     subst eo84
                     go_wp2_with (first | ((with_reducible refine gate_callee (f := 42) rfl ?_); refine goesL_ (some 112) rfl rfl Tryd.func42 (by kernel_rfl) rfl #[.slice Ao84 x14_4.length co84, .func (.func 43) #[] #[]] rfl (by (try simp only [List.map_toArray, List.map_cons, List.map_nil]); first | done | rfl | (simp only [List.length_drop, List.length_take]; rfl)) ?_; (with_reducible refine (api_Pair_42.calls (fun k_ => some k_ = (.slice Ao84 x14_4.length co84 : Value).ownBlock) (.slice Ao84 x14_4.length co84) x14_4  t230 w _ ?side1 ?side2 A82.out).mono ?_); (case side1 => repeat (first | (with_reducible first | exact HB.out | apply below_alloc | apply pw_below_drewN | apply below_drew1 | refine below_set ?_ GE190.out | refine below_set ?_ GE199.out) | exact HB.out)); (case side2 => exact Kd.R_tight rfl HO_14.out); rintro e w85 ⟨rfl, hy0, hb, hkp⟩; refine ⟨_, rfl, ?_⟩; have n0_ := Aside0.mk (Kd.S_mono (ok' := fun k_ => some k_ ≠ (.slice Ao84 x14_4.length co84 : Value).ownBlock) (Kd.S_keptB (HO_9.out) hkp (fun k_ hk_ hs_ => (hk_) hs_)) (fun k_ hk_ => hk_.1)); have n1_ := Aside0.mk (Kd.R_reok rfl hy0 (fun k_ e_ => HO_14.out.1 k_ e_)); have n2_ := Aside0.mk (Kd.R_mono (ok' := fun k_ => some k_ ≠ (.slice Ao14 t196.length co14 : Value).ownBlock) (Kd.R_keptB ((Kd.R_apart' HO_200001.out (Kd.R_typed HO_14.out) (by decide))) hkp (fun k_ hk_ hs_ => (hk_.2) hs_)) (fun k_ hk_ => hk_.1.1)); have n3_ := Aside0.mk (Kd.R_mono (ok' := fun k_ => some k_ ≠ (.slice Ao12 t193.length co12 : Value).ownBlock) (Kd.R_keptB ((Kd.R_apart' HO_200002.out (Kd.R_typed HO_14.out) (by decide))) hkp (fun k_ hk_ hs_ => (hk_.2) hs_)) (fun k_ hk_ => hk_.1.1)); have n4_ := Aside0.mk (blk_kept (zK BK190) hkp (fun hs_ => (fun e_ => (Kd.R_ne HO_14.out BK190.out (by decide)) e_) hs_)); have n5_ := Aside0.mk (blk_kept (zK BK199) hkp (fun hs_ => (fun e_ => (Kd.R_ne HO_14.out BK199.out (by decide)) e_) hs_)); have n6_ := Aside0.mk (hb); clear HO_9; clear HO_14; clear HO_200001; clear HO_200002; clear BK190; clear BK199; clear HB; have HO_9 := n0_; have HO_14 := n1_; have HO_200001 := n2_; have HO_200002 := n3_; have BK190 := n4_; have BK199 := n5_; have HB := n6_; clear n0_ n1_ n2_ n3_ n4_ n5_ n6_; (try clear hb); (try clear hkp); (try clear hy0)) | ((with_reducible refine gate_builtin (b := .append) (xs := #[.tmp 113, .tmp 115]) rfl ?_); at_builtin; refine Kd.S_append (Kd.slice 42 k42) (w0 := w) w.heap.size rfl (.tmp 113) (.tmp 115) 26 22 (.slice none 0 0) 24 rfl Tryd.underlying26 info22 rfl (by decide) (by omega) u9 x9_2 t230 [.slice Ao84 x14_4.length co84] (fun _ => True) (fun k_ => some k_ = (.slice Ao84 x14_4.length co84 : Value).ownBlock) rfl rfl ?aP (fun k_ hk_ => ((Kd.R_mono (ok' := fun k_ => ((fun _ => True)) k_ ∧ some k_ ≠ (u9 : Value).ownBlock) (Kd.R_apart' (HO_14.out) (Kd.S_typed HO_9.out) (by decide)) (fun k_ hk => ⟨trivial, hk.2⟩))).1 k_ hk_.symm) ?aF ?aO ?aB ?aS ?aL ?_; (case aP => exact Kd.M_row (Kd.R_mono (Kd.R_tight rfl (Kd.R_mono (ok' := fun k_ => ((fun _ => True)) k_ ∧ some k_ ≠ (u9 : Value).ownBlock) (Kd.R_apart' (HO_14.out) (Kd.S_typed HO_9.out) (by decide)) (fun k_ hk => ⟨trivial, hk.2⟩))) (fun _ h_ => h_))); (case aB => exact (zB HB)); (case aF => exact (fun _ _ => trivial)); (case aO => exact (by (with_reducible repeat (first | apply Kd.S_alloc | apply Kd.S_drewN | apply Kd.S_drew)); exact Kd.S_mono HO_9.out (fun k_ hk => ⟨trivial, fun e_ => hk e_⟩))); (case aS => exact (below_size (zB HB))); (case aL => have := LMc83.out; omega); intro v232 w86 ho hb hg hat; rw [← Ny231.out] at ho; have n0_ := Aside0.mk (Kd.R_over' (zR HO_200001) (Kd.S_typed (zS HO_9)) (by decide) hg); have n1_ := Aside0.mk (Kd.R_over' (zR HO_200002) (Kd.S_typed (zS HO_9)) (by decide) hg); have n2_ := Aside0.mk (blk_grown (g := gb190) (o := .cells #[.int .i64 a0_0, .slice A0_1 l0_1.length c0_1] 24 (0, 0)) (zK BK190) hg (Kd.S_ne HO_9.out BK190.out (by decide))); have n3_ := Aside0.mk (blk_grown (g := gb199) (o := .cells #[.int .u64 t192, .slice Ao12 t193.length co12, .slice Ao14 t196.length co14] 80 (0, 0)) (zK BK199) hg (Kd.S_ne HO_9.out BK199.out (by decide))); have n4_ := Aside0.mk (hb); have n5_ := Aside0.mk (ho); clear HO_200001; clear HO_200002; clear BK190; clear BK199; clear HB; clear HO_9; clear HO_14; have HO_200001 := n0_; have HO_200002 := n1_; have BK190 := n2_; have BK199 := n3_; have HB := n4_; have HO233 := n5_; clear n0_ n1_ n2_ n3_ n4_ n5_; clear ho hb hg hat))
                     go_roundg k4
                     case measure => have := HK1.out; have := HK2.out; have := HJ47.out; have := HK4.out; omega
                     case rel => exact ⟨(y231), (wrap64 (x51_2 + 1)), (by first | rfl | (simp; done) | (simp [*]; done)), H', ⟨by have := HK1.out; have := HK2.out; have := HJ47.out; have := HK4.out; omega⟩, ⟨zS HO233⟩, ⟨zR HO_200001⟩, ⟨zR HO_200002⟩, ⟨zK BK190⟩, ⟨zK BK199⟩, ⟨zB HB⟩⟩
                   · rw [if_neg c83] at H
                     exact absurd H (by simp)
       · rw [if_neg c47] at H
         have c47b0 : decide (x51_2 < a0_0) = false := decide_eq_false c47
         clear c47
         obtain rfl := Option.some.inj H
         go_wp2
         go_ret
         exact ⟨_, by first | rfl | (simp [errW_none, errW_some] <;> rfl) | (simp [*, errW_none, errW_some] <;> rfl), by (with_reducible repeat (first | apply Kd.S_alloc | apply Kd.S_drewN | apply Kd.S_drew)); exact HO_9.out, zB HB⟩
end Go.Proofs.YtjmdlmogdbhdhaaDoor.P
namespace Go.Proofs.YtjmdlmogdbhdhaaDoor.P
open Go.RowKit Go.Proofs.YtjmdlmogdbhdhaaDoorW.PrintWords Go.Proofs.YtjmdlmogdbhdhaaDoorW.PrintLast Go.Proofs.YtjmdlmogdbhdhaaDoorW.PrintMore
attribute [local go_sem] max2_int min2_int max_two min_two max_three min_three max_four min_four   -- for this text's walks alone
set_option linter.unusedVariables false
set_option linter.unusedSimpArgs false
attribute [local go_sem high] eqA42
/-! ### api_Pair_87: function 87 -/
def api_Pair_87.l0 : Nat → List (S42) → Int → Int → Int → Int → Option (Int)
 | 0, _, _, _, _, _ => none
 | k + 1, x0, x7, x8, x235000, x235001 => if x8 < x7 then (if 0 ≤ x8 then (if x8 < (x0.length : Int) then (if (x235000 == ((rd_T42 x0 x8).f0) && (x235001 == ((rd_T42 x0 x8).f1))) = true then (some x8) else (api_Pair_87.l0 k x0 x7 (wrap64 (x8 + 1)) x235000 x235001)) else (none)) else (none)) else (some (-1))
def api_Pair_87.f (k : Nat) (l0 : List (S42)) (a1_0 : Int) (a1_1 : Int) : Option (Int) := api_Pair_87.l0 k l0 (l0.length : Int) 0 a1_0 a1_1
theorem api_Pair_87.mono_l : ∀ k, (∀ y0 y1 y2 y3 y4, LeO (api_Pair_87.l0 k y0 y1 y2 y3 y4) (api_Pair_87.l0 (k + 1) y0 y1 y2 y3 y4))
 | 0 => fun _ _ _ _ _ r h => by simp [api_Pair_87.l0] at h
 | k + 1 => by
  have ih0 := api_Pair_87.mono_l k
  · intro y0 y1 y2 y3 y4
    unfold api_Pair_87.l0
    repeat' first
    | (with_reducible exact ih0 _ _ _ _ _)
    | (with_reducible exact LeO.refl _)
    | (with_reducible exact LeO.none _)
    | (with_reducible refine LeO.ite ?_ ?_)
    | (with_reducible refine LeO.bind ?_ (fun _ => ?_))
    | exact ih0 _ _ _ _ _
    | exact LeO.none _
    | refine LeO.ite ?_ ?_
    | refine LeO.bind ?_ (fun _ => ?_)
theorem api_Pair_87.mono : ∀ a0 a1 a2 k, LeO (api_Pair_87.f k a0 a1 a2) (api_Pair_87.f (k + 1) a0 a1 a2) := by
 intro a0 a1 a2 k
 have ih0 := api_Pair_87.mono_l k
 unfold api_Pair_87.f
 repeat' first
  | (with_reducible exact ih0 _ _ _ _ _)
  | (with_reducible exact LeO.refl _)
  | (with_reducible exact LeO.none _)
  | (with_reducible refine LeO.ite ?_ ?_)
  | (with_reducible refine LeO.bind ?_ (fun _ => ?_))
  | exact ih0 _ _ _ _ _
  | exact LeO.none _
  | refine LeO.ite ?_ ?_
  | refine LeO.bind ?_ (fun _ => ?_)
set_option maxHeartbeats 8000000 in
set_option maxRecDepth 100000 in
theorem api_Pair_87.calls (k : Nat) (A0 : Option Addr) (c0 : Nat) (l0 : List (S42)) (a1_0 : Int) (a1_1 : Int) (r : Int) (w : World) (hr0 : Kd.C k42 w A0 l0.length l0) (hc0 : l0.length ≤ c0) (h : api_Pair_87.f k l0 a1_0 a1_1 = some r) :
 Calls Tryd.prog 87 #[.slice A0 l0.length c0, .agg #[.int .i64 a1_0, .int .i64 a1_1]] w fun e w' => e = .returned (.int .i64 r) ∧ Below w.heap.size w w' := by
 have hu42 := Tryd.underlying42
 have HR0 := Aside0.mk hr0
 have HC0 := Aside0.mk hc0
 clear hr0 hc0
 have HB := Aside0.mk (Below.refl w.heap.size w)
 have H : (api_Pair_87.l0 k l0 (l0.length : Int) 0 a1_0 a1_1) = some r := h
 clear h
 have H' := Aside0.mk H
 clear H
 go_enter Tryd.func87, Tryd.ntmps87
 go_wp2_with (first | ((with_reducible refine gate_dst (N := 3) rfl ?_); refine box_event ?hg (N := 3) ?hd (cs := #[.int .i64 a1_0, .int .i64 a1_1]) (t := 42) ?hr ?_; (case hd => rfl); (case hg => rfl); (case hr => first | (go_simp; done) | (go_simp; rfl)); intro gb234 hg w3 hbox hb; have n0_ := Aside0.mk (below_step (zB HB) hb); have n1_ := Aside0.mk (hbox); have n2_ := Aside0.mk ((by rw [hg]; exact (below_size (zB HB)) : w.heap.size ≤ gb234)); have n3_ := Aside0.mk ((by rw [hg]; exact (below_size (zB HB)) : w.heap.size ≤ gb234)); clear HB; have HB := n0_; have BK234 := n1_; have GW234 := n2_; have GE234 := n3_; clear n0_ n1_ n2_ n3_; clear hb hbox hg))
 repeat (go_quiet (first | ((with_reducible refine gate_dst (N := 3) rfl ?_); refine box_event ?hg (N := 3) ?hd (cs := #[.int .i64 a1_0, .int .i64 a1_1]) (t := 42) ?hr ?_; (case hd => rfl); (case hg => rfl); (case hr => first | (go_simp; done) | (go_simp; rfl)); intro gb234 hg w3 hbox hb; have n0_ := Aside0.mk (below_step (zB HB) hb); have n1_ := Aside0.mk (hbox); have n2_ := Aside0.mk ((by rw [hg]; exact (below_size (zB HB)) : w.heap.size ≤ gb234)); have n3_ := Aside0.mk ((by rw [hg]; exact (below_size (zB HB)) : w.heap.size ≤ gb234)); clear HB; have HB := n0_; have BK234 := n1_; have GW234 := n2_; have GE234 := n3_; clear n0_ n1_ n2_ n3_; clear hb hbox hg)); try go_wp2_with (first | ((with_reducible refine gate_dst (N := 3) rfl ?_); refine box_event ?hg (N := 3) ?hd (cs := #[.int .i64 a1_0, .int .i64 a1_1]) (t := 42) ?hr ?_; (case hd => rfl); (case hg => rfl); (case hr => first | (go_simp; done) | (go_simp; rfl)); intro gb234 hg w3 hbox hb; have n0_ := Aside0.mk (below_step (zB HB) hb); have n1_ := Aside0.mk (hbox); have n2_ := Aside0.mk ((by rw [hg]; exact (below_size (zB HB)) : w.heap.size ≤ gb234)); have n3_ := Aside0.mk ((by rw [hg]; exact (below_size (zB HB)) : w.heap.size ≤ gb234)); clear HB; have HB := n0_; have BK234 := n1_; have GW234 := n2_; have GE234 := n3_; clear n0_ n1_ n2_ n3_; clear hb hbox hg)))
 go_loopg [8] k (fun kq v8 w' => ∃ (x8_1 : Int), v8 = .int .i64 x8_1 ∧ Aside0 (api_Pair_87.l0 kq l0 (l0.length : Int) x8_1 a1_0 a1_1 = some r) ∧ Aside0 (kq ≤ k) ∧ Aside0 (w'.heap[gb234]? = some (.cells #[.int .i64 a1_0, .int .i64 a1_1] 42 (0, 0))) ∧ Aside0 (Below w.heap.size w w'))
 case atStart => exact ⟨(0), (by first | rfl | (simp; done) | (simp [*]; done)), H', ⟨Nat.le_refl _⟩, ⟨zK BK234⟩, ⟨zB HB⟩⟩
 case round =>
  clear H'
  try clear p2
  obtain ⟨x8_1, rfl, HA, HK1, BK234, HB⟩ := hrel
  cases gk with
  | zero => exact absurd HA.out (by simp [api_Pair_87.l0])
  | succ k1 =>
   have H := HA.out
   clear HA
   simp only [api_Pair_87.l0] at H
   by_cases c4 : x8_1 < (l0.length : Int)
   · rw [if_pos c4] at H
     have c4b0 : decide (x8_1 < (l0.length : Int)) = true := decide_eq_true c4
     clear c4
     by_cases c5 : 0 ≤ x8_1
     · rw [if_pos c5] at H
       have c5b0 : decide (0 ≤ x8_1) = true := decide_eq_true c5
       clear c5
       by_cases c6 : x8_1 < (l0.length : Int)
       · rw [if_pos c6] at H
         have c6b0 : decide (x8_1 < (l0.length : Int)) = true := decide_eq_true c6
         clear c6
         by_cases c7 : (a1_0 == ((rd_T42 l0 x8_1).f0) && (a1_1 == ((rd_T42 l0 x8_1).f1))) = true
         · rw [if_pos c7] at H
           have c7b0 : (a1_0 == ((rd_T42 l0 x8_1).f0) && (a1_1 == ((rd_T42 l0 x8_1).f1))) = true := c7
           (try (have c7b1 : decide (a1_0 = ((rd_T42 l0 x8_1).f0) && (a1_1 == ((rd_T42 l0 x8_1).f1))) = true := by simpa using c7))
           (try (have c7b2 : (a1_0 == ((rd_T42 l0 x8_1).f0) && (a1_1 == ((rd_T42 l0 x8_1).f1))) = true := by simpa using c7))
           clear c7
           obtain rfl := Option.some.inj H
           have hcz8_0 : wr.cell? ⟨gb234, 0, none⟩ = some (.int .i64 a1_0) := (blk_cell BK234.out 0).trans rfl
           have hcz8_1 : wr.cell? ⟨gb234, 1, none⟩ = some (.int .i64 a1_1) := (blk_cell BK234.out 1).trans rfl
           have hfz8_0 := blk_frozen BK234.out 0
           have hfz8_1 := blk_frozen BK234.out 1
           have p235 : 0 ≤ (x8_1 : Int) := of_decide_eq_true (by first | (with_reducible assumption) | assumption)
           have q235 : x8_1 < (l0.length : Int) := of_decide_eq_true (by first | (with_reducible assumption) | assumption)
           obtain ⟨ad235, e235, hx235_0, hx235_1⟩ := at_T42 HR0.out x8_1 p235 q235
           cases e235
           replace hx235_0 := (HB.out.cell (World.block_lt_of_cell? w _ hx235_0)).trans hx235_0
           replace hx235_1 := (HB.out.cell (World.block_lt_of_cell? w _ hx235_1)).trans hx235_1
           replace p235 := eq_true p235
           replace q235 := eq_true q235
           go_wp2
           repeat (go_quiet (fail); try go_wp2)
           go_ret
           exact ⟨by first | rfl | (simp [errW_none, errW_some] <;> rfl) | (simp [*, errW_none, errW_some] <;> rfl), zB HB⟩
         · rw [if_neg c7] at H
           have c7b0 : (a1_0 == ((rd_T42 l0 x8_1).f0) && (a1_1 == ((rd_T42 l0 x8_1).f1))) = false := by simpa using c7
           (try (have c7b1 : decide (a1_0 = ((rd_T42 l0 x8_1).f0) && (a1_1 == ((rd_T42 l0 x8_1).f1))) = false := by simpa using c7))
           (try (have c7b2 : (a1_0 == ((rd_T42 l0 x8_1).f0) && (a1_1 == ((rd_T42 l0 x8_1).f1))) = false := by simpa using c7))
           (try (have c7b3 : ¬ (a1_0 = ((rd_T42 l0 x8_1).f0) && (a1_1 == ((rd_T42 l0 x8_1).f1))) := by simpa using c7))
           clear c7
           have H' := Aside0.mk H
           clear H
           have hcz9_0 : wr.cell? ⟨gb234, 0, none⟩ = some (.int .i64 a1_0) := (blk_cell BK234.out 0).trans rfl
           have hcz9_1 : wr.cell? ⟨gb234, 1, none⟩ = some (.int .i64 a1_1) := (blk_cell BK234.out 1).trans rfl
           have hfz9_0 := blk_frozen BK234.out 0
           have hfz9_1 := blk_frozen BK234.out 1
           have p235 : 0 ≤ (x8_1 : Int) := of_decide_eq_true (by first | (with_reducible assumption) | assumption)
           have q235 : x8_1 < (l0.length : Int) := of_decide_eq_true (by first | (with_reducible assumption) | assumption)
           obtain ⟨ad235, e235, hx235_0, hx235_1⟩ := at_T42 HR0.out x8_1 p235 q235
           cases e235
           replace hx235_0 := (HB.out.cell (World.block_lt_of_cell? w _ hx235_0)).trans hx235_0
           replace hx235_1 := (HB.out.cell (World.block_lt_of_cell? w _ hx235_1)).trans hx235_1
           replace p235 := eq_true p235
           replace q235 := eq_true q235
           go_wp2
           repeat (go_quiet (fail); try go_wp2)
           go_roundg k1
           case measure => have := HK1.out; omega
           case rel => exact ⟨(wrap64 (x8_1 + 1)), (by first | rfl | (simp; done) | (simp [*]; done)), H', ⟨by have := HK1.out; omega⟩, ⟨zK BK234⟩, ⟨zB HB⟩⟩
       · rw [if_neg c6] at H
         exact absurd H (by simp)
     · rw [if_neg c5] at H
       exact absurd H (by simp)
   · rw [if_neg c4] at H
     have c4b0 : decide (x8_1 < (l0.length : Int)) = false := decide_eq_false c4
     clear c4
     obtain rfl := Option.some.inj H
     go_wp2
     repeat (go_quiet (fail); try go_wp2)
     go_ret
     exact ⟨by first | rfl | (simp [errW_none, errW_some] <;> rfl) | (simp [*, errW_none, errW_some] <;> rfl), zB HB⟩
end Go.Proofs.YtjmdlmogdbhdhaaDoor.P
namespace Go.Proofs.YtjmdlmogdbhdhaaDoor.P
open Go.RowKit Go.Proofs.YtjmdlmogdbhdhaaDoorW.PrintWords Go.Proofs.YtjmdlmogdbhdhaaDoorW.PrintLast Go.Proofs.YtjmdlmogdbhdhaaDoorW.PrintMore
attribute [local go_sem] max2_int min2_int max_two min_two max_three min_three max_four min_four   -- for this text's walks alone
set_option linter.unusedVariables false
set_option linter.unusedSimpArgs false
/-! ### api_Pair_71: function 71 -/
def api_Pair_71.f (k : Nat) (l0 : List (S42)) (a1_0 : Int) (a1_1 : Int) : Option (Bool) := (api_Pair_87.f k l0 a1_0 a1_1).bind fun t237 => (some (decide (t237 ≥ 0)))
theorem api_Pair_71.mono : ∀ a0 a1 a2 k, LeO (api_Pair_71.f k a0 a1 a2) (api_Pair_71.f (k + 1) a0 a1 a2) := by
 intro a0 a1 a2 k
 unfold api_Pair_71.f
 repeat' first
  | (with_reducible exact api_Pair_87.mono _ _ _ _)
  | (with_reducible exact LeO.refl _)
  | (with_reducible exact LeO.none _)
  | (with_reducible refine LeO.ite ?_ ?_)
  | (with_reducible refine LeO.bind ?_ (fun _ => ?_))
  | exact api_Pair_87.mono _ _ _ _
  | exact LeO.none _
  | refine LeO.ite ?_ ?_
  | refine LeO.bind ?_ (fun _ => ?_)
set_option maxHeartbeats 8000000 in
set_option maxRecDepth 100000 in
theorem api_Pair_71.calls (k : Nat) (A0 : Option Addr) (c0 : Nat) (l0 : List (S42)) (a1_0 : Int) (a1_1 : Int) (r : Bool) (w : World) (hr0 : Kd.C k42 w A0 l0.length l0) (hc0 : l0.length ≤ c0) (h : api_Pair_71.f k l0 a1_0 a1_1 = some r) :
 Calls Tryd.prog 71 #[.slice A0 l0.length c0, .agg #[.int .i64 a1_0, .int .i64 a1_1]] w fun e w' => e = .returned (.bool r) ∧ Below w.heap.size w w' := by
 have hu42 := Tryd.underlying42
 have HR0 := Aside0.mk hr0
 have HC0 := Aside0.mk hc0
 clear hr0 hc0
 have HB := Aside0.mk (Below.refl w.heap.size w)
 have H : ((api_Pair_87.f k l0 a1_0 a1_1).bind fun t237 => (some (decide (t237 ≥ 0)))) = some r := h
 clear h
 replace H := Option.bind_eq_some_iff.mp H
 obtain ⟨t237, A30, H⟩ := H
 replace H : (some (decide (t237 ≥ 0))) = some r := H
 have A3 := Aside0.mk A30
 clear A30
 obtain rfl := Option.some.inj H
 go_enter Tryd.func71, Tryd.ntmps71
 go_wp2_with (first | ((with_reducible refine gate_dst (N := 3) rfl ?_); refine box_event ?hg (N := 3) ?hd (cs := #[.int .i64 a1_0, .int .i64 a1_1]) (t := 42) ?hr ?_; (case hd => rfl); (case hg => rfl); (case hr => first | (go_simp; done) | (go_simp; rfl)); intro gb236 hg w4 hbox hb; have n0_ := Aside0.mk (below_step (zB HB) hb); have n1_ := Aside0.mk (hbox); have n2_ := Aside0.mk ((by rw [hg]; exact (below_size (zB HB)) : w.heap.size ≤ gb236)); have n3_ := Aside0.mk ((by rw [hg]; exact (below_size (zB HB)) : w.heap.size ≤ gb236)); clear HB; have HB := n0_; have BK236 := n1_; have GW236 := n2_; have GE236 := n3_; clear n0_ n1_ n2_ n3_; clear hb hbox hg; have hcz5_0 : w4.cell? ⟨gb236, 0, none⟩ = some (.int .i64 a1_0) := (blk_cell BK236.out 0).trans rfl; have hcz5_1 : w4.cell? ⟨gb236, 1, none⟩ = some (.int .i64 a1_1) := (blk_cell BK236.out 1).trans rfl; have hfz5_0 := blk_frozen BK236.out 0; have hfz5_1 := blk_frozen BK236.out 1) | ((with_reducible refine gate_callee (f := 87) rfl ?_); refine goesL_ (some 7) rfl rfl Tryd.func87 (by kernel_rfl) rfl #[.slice A0 l0.length c0, .agg #[.int .i64 a1_0, .int .i64 a1_1]] rfl (by (try simp only [List.map_toArray, List.map_cons, List.map_nil]); first | done | rfl | (simp only [List.length_drop, List.length_take]; rfl)) ?_; (with_reducible refine (api_Pair_87.calls k _ _ l0 a1_0 a1_1 t237 _ ?side1 ?side2 A3.out).mono ?_); (case side1 => repeat (first | exact (Kd.C_below HR0.out HB.out) | (with_reducible refine Kd.C_alloc ?_ _) | (with_reducible refine Kd.C_drewN ?_ _) | (with_reducible refine Kd.C_drew ?_))); (case side2 => exact HC0.out); rintro e w6 ⟨rfl, hb⟩; refine ⟨_, rfl, ?_⟩; have n0_ := Aside0.mk (blk_below (g := gb236) (o := .cells #[.int .i64 a1_0, .int .i64 a1_1] 42 (0, 0)) (zK BK236) hb); have n1_ := Aside0.mk (below_step (zB HB) hb); clear BK236; clear HB; have BK236 := n0_; have HB := n1_; clear n0_ n1_; (try clear hb); (try clear hb2); (try clear hk); (try clear hi)))
 go_ret
 exact ⟨by first | rfl | (simp [errW_none, errW_some] <;> rfl) | (simp [*, errW_none, errW_some] <;> rfl), zB HB⟩
end Go.Proofs.YtjmdlmogdbhdhaaDoor.P
namespace Go.Proofs.YtjmdlmogdbhdhaaDoor.P
open Go.RowKit Go.Proofs.YtjmdlmogdbhdhaaDoorW.PrintWords Go.Proofs.YtjmdlmogdbhdhaaDoorW.PrintLast Go.Proofs.YtjmdlmogdbhdhaaDoorW.PrintMore
attribute [local go_sem] max2_int min2_int max_two min_two max_three min_three max_four min_four   -- for this text's walks alone
set_option linter.unusedVariables false
set_option linter.unusedSimpArgs false
/-! ### enforce_proves: function 39 -/
open Go.ChangeMaps (setBlock)
def eqP (x y : S42) : Bool := x.f0 == y.f0 && x.f1 == y.f1
theorem idx_l0 (x : S42) (l : List S42) (hl : l.length ≤ 9223372036854775807) : ∀ (n i : Nat), n + i = l.length → ∃ r, api_Pair_87.l0 (n + 1) l (l.length : Int) (i : Int) x.f0 x.f1 = some r ∧ decide (r ≥ 0) = (l.drop i).any (eqP x)
 | 0, i, h => by
  refine ⟨-1, ?_, ?_⟩
  · unfold api_Pair_87.l0
    rw [if_neg (by omega)]
  · rw [List.drop_eq_nil_of_le (by omega)]
    rfl
 | n + 1, i, h => by
  obtain ⟨r, h1, h2⟩ := idx_l0 x l hl n (i + 1) (by omega)
  have hd := rd_drop l i (by omega)
  have hw : wrap64 ((i : Int) + 1) = ((i + 1 : Nat) : Int) := by unfold wrap64; omega
  unfold api_Pair_87.l0
  rw [if_pos (by omega), if_pos (by omega), if_pos (by omega)]
  rw [hd, List.any_cons]
  by_cases he : eqP x (rd_T42 l i) = true
  · have he' := he
    unfold eqP at he'
    rw [if_pos he']
    exact ⟨_, rfl, by simp [he]⟩
  · have he' := he
    unfold eqP at he'
    rw [if_neg he', hw]
    exact ⟨r, h1, by simp [he, h2]⟩
theorem has_f (x : S42) (l : List S42) (hl : l.length ≤ 9223372036854775807) : api_Pair_71.f (l.length + 1) l x.f0 x.f1 = some (l.any (eqP x)) := by
 obtain ⟨r, h1, h2⟩ := idx_l0 x l hl l.length 0 (by simp)
 unfold api_Pair_71.f api_Pair_87.f
 rw [show (0 : Int) = ((0 : Nat) : Int) from rfl, h1]
 simpa using h2
set_option maxHeartbeats 1000000 in
theorem lit70 (gl : Nat) (A : Option Addr) (c : Nat) (l : List S42) (x : S42) (w : World) (hb : w.heap[gl]? = some (.cells #[.slice A l.length c] 22 (0, 0))) (hr : Kd.C k42 w A l.length l) (hc : l.length ≤ c) :
 Calls Tryd.prog 70 #[.agg #[.int .i64 x.f0, .int .i64 x.f1], .pointer (some ⟨gl, 0, none⟩)] w fun e w' => e = .returned (.bool (!l.any (eqP x))) ∧ Below w.heap.size w w' := by
 have hu42 := Tryd.underlying42
 have hl := hr.2.1
 have HF := has_f x l hl
 have HR := Aside0.mk hr
 have HC := Aside0.mk hc
 clear hr hc hl
 have hcz := (blk_cell (blk_alloc hb (.cells #[.int .i64 x.f0, .int .i64 x.f1] 42)) 0).trans (show _ = some (.slice A l.length c) from rfl)
 generalize l.any (eqP x) = b at HF ⊢
 go_enter Tryd.func70, Tryd.ntmps70
 go_wp2_with (go_at_call 71; go_must (refine (api_Pair_71.calls _ _ _ l x.f0 x.f1 b _ (Kd.C_below HR.out (below_alloc (Below.refl _ _) _)) HC.out HF).mono ?_; rintro e w' ⟨rfl, hb'⟩))
 go_ret
 exact ⟨rfl, below_step (below_alloc (Below.refl _ _) _) hb'⟩
set_option maxHeartbeats 2000000 in
theorem idx86 (gl : Nat) (p : S42 → Bool) (A : Option Addr) (c : Nat) (l : List S42) (w : World) (hr : Kd.C k42 w A l.length l) (hc : l.length ≤ c)
 (hp : ∀ W (x : S42), Below w.heap.size w W → Calls Tryd.prog 70 #[.agg #[.int .i64 x.f0, .int .i64 x.f1], .pointer (some ⟨gl, 0, none⟩)] W fun e w' => e = .returned (.bool (p x)) ∧ Below w.heap.size w w') :
 Calls Tryd.prog 86 #[.slice A l.length c, .func (.func 70) #[] #[.pointer (some ⟨gl, 0, none⟩)]] w fun e w' => ∃ r : Int, e = .returned (.int .i64 r) ∧ decide (r ≥ 0) = l.any p ∧ Below w.heap.size w w' := by
 have hu42 := Tryd.underlying42
 have HR := Aside0.mk hr
 have HC := Aside0.mk hc
 have HP := Aside0.mk hp
 clear hr hc hp
 go_enter Tryd.func86, Tryd.ntmps86
 go_wp2
 go_loopg [5, 8] l.length (fun kq _ v8 w' => ∃ i : Nat, v8 = .int .i64 i ∧ Aside0 (kq + i = l.length) ∧ Aside0 (Below w.heap.size w w') ∧ Aside0 (l.any p = (l.drop i).any p))
 case atStart => exact ⟨0, rfl, ⟨rfl⟩, ⟨Below.refl _ _⟩, ⟨rfl⟩⟩
 case round =>
  obtain ⟨i, rfl, HI, HB, HA⟩ := hrel
  cases gk with
  | zero =>
   have hi : i = l.length := by have := HI.out; omega
   subst hi
   have hi1 : decide ((l.length : Int) < (l.length : Int)) = false := by simp
   have hi0 : decide (l.length < l.length) = false := by simp
   go_wp2
   go_ret
   exact ⟨-1, rfl, by rw [HA.out, List.drop_length]; rfl, HB.out⟩
  | succ k1 =>
   have hi : i < l.length := by have := HI.out; omega
   have hl : l.length ≤ 9223372036854775807 := HR.out.2.1
   obtain ⟨ad, e0, hx0, hx1⟩ := at_T42 (Kd.C_below HR.out HB.out) (i : Int) (by omega) (by omega)
   simp only [Int.toNat_natCast] at hx0 hx1
   have hi0 : decide (i < l.length) = true := decide_eq_true hi
   have hi1 : decide ((i : Int) < (l.length : Int)) = true := decide_eq_true (by omega)
   cases e0
   have HS := Aside0.mk (rd_drop l i hi)
   generalize rd_T42 l i = x at HS hx0 hx1
   have hcall := HP.out wr x HB.out
   cases hq : p x with
   | true =>
    rw [hq] at hcall
    have HQ := Aside0.mk hq
    clear hq
    go_wp2_with fail
    refine hcall.mono ?_
    rintro e w' ⟨rfl, hb'⟩
    go_wp2
    go_ret
    exact ⟨(i : Int), rfl, by rw [HA.out, HS.out]; simp [HQ.out], hb'⟩
   | false =>
    rw [hq] at hcall
    have HQ := Aside0.mk hq
    clear hq
    go_wp2_with fail
    refine hcall.mono ?_
    rintro e w' ⟨rfl, hb'⟩
    go_wp2
    go_roundg k1
    case measure => omega
    case rel => exact ⟨i + 1, by go_num, ⟨by have := HI.out; omega⟩, ⟨hb'⟩, ⟨by rw [HA.out, HS.out]; simp [HQ.out]⟩⟩
set_option maxHeartbeats 2000000 in
theorem cont69 (gl : Nat) (p : S42 → Bool) (A : Option Addr) (c : Nat) (l : List S42) (w : World) (hr : Kd.C k42 w A l.length l) (hc : l.length ≤ c)
 (hp : ∀ W (x : S42), Below w.heap.size w W → Calls Tryd.prog 70 #[.agg #[.int .i64 x.f0, .int .i64 x.f1], .pointer (some ⟨gl, 0, none⟩)] W fun e w' => e = .returned (.bool (p x)) ∧ Below w.heap.size w w') :
 Calls Tryd.prog 69 #[.slice A l.length c, .func (.func 70) #[] #[.pointer (some ⟨gl, 0, none⟩)]] w fun e w' => e = .returned (.bool (l.any p)) ∧ Below w.heap.size w w' := by
 have HH := Aside0.mk (idx86 gl p A c l w hr hc hp)
 clear hr hc hp
 go_enter Tryd.func69, Tryd.ntmps69
 go_wp2_with (go_at_call 86; refine HH.out.mono ?_; rintro e w' ⟨r, rfl, hr, hb'⟩)
 go_ret
 exact ⟨by rw [← hr]; rfl, hb'⟩
set_option maxHeartbeats 2000000 in
theorem lit68 (gl : Nat) (A : Option Addr) (c : Nat) (l : List S42) (Ad : Option Addr) (cd : Nat) (d : List S42) (w : World) (hb : w.heap[gl]? = some (.cells #[.slice A l.length c] 22 (0, 0))) (hr : Kd.C k42 w A l.length l) (hc : l.length ≤ c)
 (hrd : Kd.C k42 w Ad d.length d) (hcd : d.length ≤ cd) :
 Calls Tryd.prog 68 #[.slice Ad d.length cd, .pointer (some ⟨gl, 0, none⟩)] w fun e w' => e = .returned (.bool (!d.any fun x => !l.any (eqP x))) ∧ Below w.heap.size w w' := by
 have HH := Aside0.mk (cont69 gl (fun x => !l.any (eqP x)) Ad cd d w hrd hcd (fun W x hB => (lit70 gl A c l x W ((hB.block gl (lt_of_blk hb)).trans hb) (Kd.C_below hr hB) hc).mono (fun e w' h => ⟨h.1, below_step hB h.2⟩)))
 clear hb hr hc hrd hcd
 go_enter Tryd.func68, Tryd.ntmps68
 go_wp2_with (go_at_call 69; refine HH.out.mono ?_; rintro e w' ⟨rfl, hb'⟩)
 go_ret
 exact ⟨rfl, hb'⟩
set_option maxHeartbeats 2000000 in
theorem idx85 (gl : Nat) (p : List S42 → Bool) (A : Option Addr) (c : Nat) (l : List (List S42)) (w : World) (hr : Kd.C (Kd.slice 42 k42) w A l.length l) (hc : l.length ≤ c)
 (hp : ∀ W (Ad : Option Addr) (cd : Nat) (d : List S42), Below w.heap.size w W → Kd.C k42 W Ad d.length d → d.length ≤ cd → Calls Tryd.prog 68 #[.slice Ad d.length cd, .pointer (some ⟨gl, 0, none⟩)] W fun e w' => e = .returned (.bool (p d)) ∧ Below w.heap.size w w') :
 Calls Tryd.prog 85 #[.slice A l.length c, .func (.func 68) #[] #[.pointer (some ⟨gl, 0, none⟩)]] w fun e w' => ∃ r : Int, e = .returned (.int .i64 r) ∧ decide (r ≥ 0) = l.any p ∧ Below w.heap.size w w' := by
 have HR := Aside0.mk hr
 have HC := Aside0.mk hc
 have HP := Aside0.mk hp
 clear hr hc hp
 go_enter Tryd.func85, Tryd.ntmps85
 go_wp2
 go_loopg [5, 8] l.length (fun kq _ v8 w' => ∃ i : Nat, v8 = .int .i64 i ∧ Aside0 (kq + i = l.length) ∧ Aside0 (Below w.heap.size w w') ∧ Aside0 (l.any p = (l.drop i).any p))
 case atStart => exact ⟨0, rfl, ⟨rfl⟩, ⟨Below.refl _ _⟩, ⟨rfl⟩⟩
 case round =>
  obtain ⟨i, rfl, HI, HB, HA⟩ := hrel
  cases gk with
  | zero =>
   have hi : i = l.length := by have := HI.out; omega
   subst hi
   have hi1 : decide ((l.length : Int) < (l.length : Int)) = false := by simp
   have hi0 : decide (l.length < l.length) = false := by simp
   go_wp2
   go_ret
   exact ⟨-1, rfl, by rw [HA.out, List.drop_length]; rfl, HB.out⟩
  | succ k1 =>
   have hi : i < l.length := by have := HI.out; omega
   have hl : l.length ≤ 9223372036854775807 := HR.out.2.1
   obtain ⟨ad, Ad, cd, e0, hx0, hx1, hx2⟩ := at_L2 (Kd.C_below HR.out HB.out) (i : Int) (by omega) (by omega)
   simp only [Int.toNat_natCast] at hx0
   have hi0 : decide (i < l.length) = true := decide_eq_true hi
   have hi1 : decide ((i : Int) < (l.length : Int)) = true := decide_eq_true (by omega)
   cases e0
   have HS : Aside0 (l.drop i = rd_L2 l i :: l.drop (i + 1)) := ⟨by rw [List.drop_eq_getElem_cons hi]; simp [rd_L2, hi]⟩
   generalize rd_L2 l i = x at HS hx0 hx1 hx2
   have hcall := HP.out wr Ad cd x HB.out hx2 hx1
   clear hx2 hx1
   cases hq : p x with
   | true =>
    rw [hq] at hcall
    have HQ := Aside0.mk hq
    clear hq
    go_wp2_with fail
    refine hcall.mono ?_
    rintro e w' ⟨rfl, hb'⟩
    go_wp2
    go_ret
    exact ⟨(i : Int), rfl, by rw [HA.out, HS.out]; simp [HQ.out], hb'⟩
   | false =>
    rw [hq] at hcall
    have HQ := Aside0.mk hq
    clear hq
    go_wp2_with fail
    refine hcall.mono ?_
    rintro e w' ⟨rfl, hb'⟩
    go_wp2
    go_roundg k1
    case measure => omega
    case rel => exact ⟨i + 1, by go_num, ⟨by have := HI.out; omega⟩, ⟨hb'⟩, ⟨by rw [HA.out, HS.out]; simp [HQ.out]⟩⟩
def covP (all : List (List S42)) (l : List S42) : Bool := all.any fun d => !d.any fun x => !l.any (eqP x)
set_option maxHeartbeats 2000000 in
theorem cont67 (gl : Nat) (A : Option Addr) (c : Nat) (l : List S42) (Aa : Option Addr) (ca : Nat) (all : List (List S42)) (w : World) (hb : w.heap[gl]? = some (.cells #[.slice A l.length c] 22 (0, 0))) (hr : Kd.C k42 w A l.length l) (hc : l.length ≤ c)
 (hra : Kd.C (Kd.slice 42 k42) w Aa all.length all) (hca : all.length ≤ ca) :
 Calls Tryd.prog 67 #[.slice Aa all.length ca, .func (.func 68) #[] #[.pointer (some ⟨gl, 0, none⟩)]] w fun e w' => e = .returned (.bool (covP all l)) ∧ Below w.heap.size w w' := by
 have HH := Aside0.mk (idx85 gl (fun d => !d.any fun x => !l.any (eqP x)) Aa ca all w hra hca (fun W Ad cd d hB h1 h2 => (lit68 gl A c l Ad cd d W ((hB.block gl (lt_of_blk hb)).trans hb) (Kd.C_below hr hB) hc h1 h2).mono (fun e w' h => ⟨h.1, below_step hB h.2⟩)))
 clear hb hr hc hra hca
 go_enter Tryd.func67, Tryd.ntmps67
 go_wp2_with (go_at_call 85; refine HH.out.mono ?_; rintro e w' ⟨r, rfl, hr, hb'⟩)
 go_ret
 exact ⟨by unfold covP; rw [← hr]; rfl, hb'⟩
def prSeen : List S42 → List (S42 × Bool) → Option (List (S42 × Bool))
 | [], m => some m
 | p :: r, m => if mget m p = true then none else prSeen r (mput m p true)
def prAll : List (List S42) → List (S42 × Bool) → Option (List (S42 × Bool))
 | [], m => some m
 | l :: r, m => (prSeen l m).bind fun m2 => prAll r m2
def enforce_proves.f (k : Nat) (a0_0 : Int) (l0_1 : List S42) (a1 : Int) (l2_0 : List Int) (l2_1 : List S42) (l2_2 : List (List S42)) : Option Bool :=
 if l2_2.length = l2_1.length then (match prAll l2_2 [] with | none => some false | some _ => (enforce_duties.f k a0_0 l0_1 l2_0 a1).bind fun all => some (l2_2.all (covP all))) else some false
theorem enforce_proves.mono : ∀ a0 a1 a2 a3 a4 a5 k, LeO (enforce_proves.f k a0 a1 a2 a3 a4 a5) (enforce_proves.f (k + 1) a0 a1 a2 a3 a4 a5) := by
 intro a0 a1 a2 a3 a4 a5 k
 unfold enforce_proves.f
 refine LeO.ite ?_ (LeO.refl _)
 cases prAll a5 [] with
 | none => exact LeO.refl _
 | some m => exact LeO.bind (enforce_duties.mono _ _ _ _ _) (fun _ => LeO.refl _)
set_option maxHeartbeats 8000000 in
set_option maxRecDepth 100000 in
theorem enforce_proves.calls (k : Nat) (a0_0 : Int) (A0_1 : Option Addr) (c0_1 : Nat) (l0_1 : List S42) (a1 : Int) (A2_0 : Option Addr) (c2_0 : Nat) (l2_0 : List Int) (A2_1 : Option Addr) (c2_1 : Nat) (l2_1 : List S42) (A2_2 : Option Addr) (c2_2 : Nat) (l2_2 : List (List S42)) (r : Bool) (w : World) (hr0_1 : Kd.C k42 w A0_1 l0_1.length l0_1) (hc0_1 : l0_1.length ≤ c0_1) (hr2_0 : Kd.C (Kd.int .i64) w A2_0 l2_0.length l2_0) (hc2_0 : l2_0.length ≤ c2_0) (hr2_1 : Kd.C k42 w A2_1 l2_1.length l2_1) (hc2_1 : l2_1.length ≤ c2_1) (hr2_2 : Kd.C (Kd.slice 42 k42) w A2_2 l2_2.length l2_2) (hc2_2 : l2_2.length ≤ c2_2) (hT : TabT w) (h : enforce_proves.f k a0_0 l0_1 a1 l2_0 l2_1 l2_2 = some r) :
 Calls Tryd.prog 39 #[.agg #[.int .i64 a0_0, .slice A0_1 l0_1.length c0_1], .int .i64 a1, .agg #[.slice A2_0 l2_0.length c2_0, .slice A2_1 l2_1.length c2_1, .slice A2_2 l2_2.length c2_2]] w fun e w' => e = .returned (.bool r) ∧ Below w.heap.size w w' := by
 have hu24 := Tryd.underlying24
 have hu28 := Tryd.underlying28
 have hu42 := Tryd.underlying42
 have HTab := Aside0.mk hT
 have HR0 := Aside0.mk hr0_1
 have HC0 := Aside0.mk hc0_1
 have HR20 := Aside0.mk hr2_0
 have HC20 := Aside0.mk hc2_0
 have HR22 := Aside0.mk hr2_2
 have HC22 := Aside0.mk hc2_2
 clear hr0_1 hc0_1 hr2_0 hc2_0 hr2_1 hc2_1 hr2_2 hc2_2 hT
 have HY := Aside0.mk h
 clear h
 go_enter Tryd.func39, Tryd.ntmps39
 by_cases hlen : l2_2.length = l2_1.length
 case neg =>
  have HY2 := HY.out
  unfold enforce_proves.f at HY2
  rw [if_neg hlen] at HY2
  obtain rfl := Option.some.inj HY2
  have hn1 : decide (l2_2.length = l2_1.length) = false := decide_eq_false hlen
  have hn2 : ¬ ((l2_2.length : Int) = (l2_1.length : Int)) := by omega
  go_wp2
  go_ret
  exact ⟨rfl, below_alloc (below_alloc (Below.refl _ _) _) _⟩
 case pos =>
  have HY2 := HY.out
  unfold enforce_proves.f at HY2
  rw [if_pos hlen] at HY2
  clear HY
  have HY := Aside0.mk HY2
  clear HY2
  have hn1 : l2_1.length = l2_2.length := hlen.symm
  clear hlen
  have hmm := @run_makeMap Tryd.prog
  go_upto_region 4 with (fail)
  clear hmm hn1
  have T0 : TW w ((w.alloc (.cells #[.int .i64 a0_0, .slice A0_1 l0_1.length c0_1] 24)).alloc (.cells #[.slice A2_0 l2_0.length c2_0, .slice A2_1 l2_2.length c2_1, .slice A2_2 l2_2.length c2_2] 28)) w.heap.size (w.heap.size + 1) (.cells #[.int .i64 a0_0, .slice A0_1 l0_1.length c0_1] 24 (0, 0)) (.cells #[.slice A2_0 l2_0.length c2_0, .slice A2_1 l2_2.length c2_1, .slice A2_2 l2_2.length c2_2] 28 (0, 0)) :=
   ⟨below_alloc (below_alloc (Below.refl _ _) _) _, blk_alloc (blk_new w _) _, by have := blk_new (w.alloc (.cells #[.int .i64 a0_0, .slice A0_1 l0_1.length c0_1] 24)) (.cells #[.slice A2_0 l2_0.length c2_0, .slice A2_1 l2_2.length c2_1, .slice A2_2 l2_2.length c2_2] 28 (0, 0)); simpa using this⟩
  have M0 : MapIs (((w.alloc (.cells #[.int .i64 a0_0, .slice A0_1 l0_1.length c0_1] 24)).alloc (.cells #[.slice A2_0 l2_0.length c2_0, .slice A2_1 l2_2.length c2_1, .slice A2_2 l2_2.length c2_2] 28)).alloc (.map #[] 0)) (w.heap.size + 1 + 1) [] := by
   have := blk_new ((w.alloc (.cells #[.int .i64 a0_0, .slice A0_1 l0_1.length c0_1] 24)).alloc (.cells #[.slice A2_0 l2_0.length c2_0, .slice A2_1 l2_2.length c2_1, .slice A2_2 l2_2.length c2_2] 28)) (.map #[] 0)
   simpa [MapIs, mEsL] using this
  have T2 := Aside0.mk (T0.alloc (.map #[] 0))
  have M2 := Aside0.mk M0
  clear T0 M0
  have BM : Aside0 (w.heap.size ≤ w.heap.size + 1 + 1) := ⟨by omega⟩
  have BN : Aside0 (w.heap.size + 1 + 1 ≠ w.heap.size) := ⟨by omega⟩
  have BR : Aside0 (w.heap.size + 1 + 1 ≠ w.heap.size + 1) := ⟨by omega⟩
  generalize (((w.alloc (.cells #[.int .i64 a0_0, .slice A0_1 l0_1.length c0_1] 24)).alloc (.cells #[.slice A2_0 l2_0.length c2_0, .slice A2_1 l2_2.length c2_1, .slice A2_2 l2_2.length c2_2] 28)).alloc (.map #[] 0)) = w2 at T2 M2 ⊢
  generalize w.heap.size + 1 + 1 = bm at M2 BM BN BR ⊢
  generalize w.heap.size + 1 = gr at T2 BR ⊢
  generalize hgb : w.heap.size = gb at T2 BN ⊢
  clear hgb
  have hcz0 : w2.cell? ⟨gr, 2, none⟩ = some (.slice A2_2 l2_2.length c2_2) := (blk_cell T2.out.br 2).trans rfl
  go_wp2_with fail
  clear hcz0
  go_loopg [26] l2_2.length (fun kq v26 w' => ∃ (i : Nat) (m : List (S42 × Bool)), v26 = .int .i64 i ∧ Aside0 (kq + i = l2_2.length) ∧ Aside0 (TW w w' gb gr (.cells #[.int .i64 a0_0, .slice A0_1 l0_1.length c0_1] 24 (0, 0)) (.cells #[.slice A2_0 l2_0.length c2_0, .slice A2_1 l2_2.length c2_1, .slice A2_2 l2_2.length c2_2] 28 (0, 0))) ∧ Aside0 (MapIs w' bm m) ∧ Aside0 (prAll (l2_2.drop i) m = prAll l2_2 []))
  case atStart => exact ⟨0, [], rfl, ⟨rfl⟩, T2, M2, ⟨rfl⟩⟩
  case round =>
   clear T2 M2
   obtain ⟨i, m, rfl, HI, T2, M2, HA⟩ := hrel
   cases gk with
   | succ k1 =>
    have hi : i < l2_2.length := by have := HI.out; omega
    have hl : l2_2.length ≤ 9223372036854775807 := HR22.out.2.1
    obtain ⟨ad, Ad, cd, e0, hx0, hx1, hx2⟩ := at_L2 HR22.out (i : Int) (by omega) (by omega)
    simp only [Int.toNat_natCast] at hx0
    have hi0 : decide (i < l2_2.length) = true := decide_eq_true hi
    have hi1 : decide ((i : Int) < (l2_2.length : Int)) = true := decide_eq_true (by omega)
    cases e0
    have HS : Aside0 (l2_2.drop i = rd_L2 l2_2 i :: l2_2.drop (i + 1)) := ⟨by rw [List.drop_eq_getElem_cons hi]; simp [rd_L2, hi]⟩
    generalize rd_L2 l2_2 i = l at HS hx0 hx1 hx2
    replace hx0 := (T2.out.hb.cell (World.block_lt_of_cell? w _ hx0)).trans hx0
    have HX2 := Aside0.mk hx2
    have hll : l.length ≤ 9223372036854775807 := hx2.2.1
    have HLL := Aside0.mk hll
    clear hx2 hx1 hll
    rw [HS.out] at HA
    go_wp2_with fail
    clear hx0 hi0 hi1
    go_loopg [32] l.length (fun kq v32 w' => ∃ (j : Nat) (m2 : List (S42 × Bool)), v32 = .int .i64 j ∧ Aside0 (kq + j = l.length) ∧ Aside0 (TW w w' gb gr (.cells #[.int .i64 a0_0, .slice A0_1 l0_1.length c0_1] 24 (0, 0)) (.cells #[.slice A2_0 l2_0.length c2_0, .slice A2_1 l2_2.length c2_1, .slice (some ad) l2_2.length c2_2] 28 (0, 0))) ∧ Aside0 (MapIs w' bm m2) ∧ Aside0 (((prSeen (l.drop j) m2).bind fun m3 => prAll (l2_2.drop (i + 1)) m3) = prAll l2_2 []))
    case atStart => exact ⟨0, m, rfl, ⟨rfl⟩, T2, M2, HA⟩
    case round =>
     clear T2 M2 HA
     obtain ⟨j, m2, rfl, HJ, T2, M2, HA⟩ := hrel
     cases gk with
     | succ kj =>
      have hj : j < l.length := by have := HJ.out; omega
      have hl : l.length ≤ 9223372036854775807 := HLL.out
      obtain ⟨ad2, e1, hy0, hy1⟩ := at_T42 (Kd.C_below HX2.out T2.out.hb) (j : Int) (by omega) (by omega)
      simp only [Int.toNat_natCast] at hy0 hy1
      have hj0 : decide (j < l.length) = true := decide_eq_true hj
      have hj1 : decide ((j : Int) < (l.length : Int)) = true := decide_eq_true (by omega)
      cases e1
      have HSJ := Aside0.mk (rd_drop l j hj)
      go_upto_region 10 with (fail)
      have T3 := Aside0.mk (T2.out.alloc (.cells #[.int .i64 (rd_T42 l j).f0, .int .i64 (rd_T42 l j).f1] 42))
      have M3 := Aside0.mk (M2.out.alloc (.cells #[.int .i64 (rd_T42 l j).f0, .int .i64 (rd_T42 l j).f1] 42))
      have P3 := Aside0.mk (blk_new wr (.cells #[.int .i64 (rd_T42 l j).f0, .int .i64 (rd_T42 l j).f1] 42 (0, 0)))
      have PB : Aside0 (wr.heap.size ≠ bm) := ⟨Nat.ne_of_gt (lt_of_blk M2.out)⟩
      clear T2 M2 hy0 hy1
      generalize wr.alloc (.cells #[.int .i64 (rd_T42 l j).f0, .int .i64 (rd_T42 l j).f1] 42) = w3 at T3 M3 P3 ⊢
      generalize wr.heap.size = gp at P3 PB ⊢
      generalize rd_T42 l j = p at HSJ P3 ⊢
      have hcz1 : w3.cell? ⟨gp, 0, none⟩ = some (.int .i64 p.f0) := (blk_cell P3.out 0).trans rfl
      have hcz2 : w3.cell? ⟨gp, 1, none⟩ = some (.int .i64 p.f1) := (blk_cell P3.out 1).trans rfl
      have hlk := lookup_run M3.out p
      simp only [mKey] at hlk
      rw [HSJ.out] at HA
      cases hm : mget m2 p with
      | true =>
       rw [hm] at hlk
       have HX := HY.out
       rw [← HA.out] at HX
       simp only [prSeen, hm, if_true, Option.bind_none] at HX
       obtain rfl := Option.some.inj HX
       clear HX
       go_wp2
       go_ret
       exact ⟨rfl, T3.out.hb⟩
      | false =>
       rw [hm] at hlk
       go_upto_region 12 with (fail)
       have hup1 := update_run M3.out p true
       simp only [mKey] at hup1
       have M4 := Aside0.mk (M3.out.put (mput m2 p true))
       have T4 := Aside0.mk (T3.out.mset (.map (mEsL (mput m2 p true) 0).toArray (mput m2 p true).length) BM.out BN.out BR.out)
       clear T3 M3 P3
       simp only [prSeen, hm, if_neg Bool.false_ne_true] at HA
       generalize setBlock w3 bm (.map (mEsL (mput m2 p true) 0).toArray (mput m2 p true).length) = w5 at hup1 T4 M4
       clear hlk
       go_wp2
       go_roundg kj
       case measure => omega
       case rel => exact ⟨j + 1, _, by go_num, ⟨by have := HJ.out; omega⟩, T4, M4, HA⟩
     | zero =>
      have hj : j = l.length := by have := HJ.out; omega
      subst hj
      rw [List.drop_length] at HA
      simp only [prSeen, Option.bind_some] at HA
      have hj1 : decide ((l.length : Int) < (l.length : Int)) = false := by simp
      have hj0 : decide (l.length < l.length) = false := by simp
      go_wp2
      go_roundg k1
      case measure => omega
      case rel => exact ⟨i + 1, m2, by go_num, ⟨by have := HI.out; omega⟩, T2, M2, HA⟩
   | zero =>
    have hi : i = l2_2.length := by have := HI.out; omega
    subst hi
    rw [List.drop_length] at HA
    simp only [prAll] at HA
    have HX := HY.out
    rw [← HA.out] at HX
    clear HY HA
    obtain ⟨all, hD, HX⟩ := Option.bind_eq_some_iff.1 HX
    have HD := Aside0.mk hD
    have HX := Aside0.mk (Option.some.inj HX)
    clear hD M2
    have hi1 : decide ((l2_2.length : Int) < (l2_2.length : Int)) = false := by simp
    have hi0 : decide (l2_2.length < l2_2.length) = false := by simp
    have hcz0 : wr.cell? ⟨gb, 0, none⟩ = some (.int .i64 a0_0) := (blk_cell T2.out.bg 0).trans rfl
    have hcz1 : wr.cell? ⟨gb, 1, none⟩ = some (.slice A0_1 l0_1.length c0_1) := (blk_cell T2.out.bg 1).trans rfl
    have hcz2 : wr.cell? ⟨gr, 0, none⟩ = some (.slice A2_0 l2_0.length c2_0) := (blk_cell T2.out.br 0).trans rfl
    go_wp2_with fail
    refine (enforce_duties.calls k a0_0 _ _ l0_1 _ _ l2_0 a1 all wr (Kd.C_below HR0.out T2.out.hb) HC0.out (Kd.C_below HR20.out T2.out.hb) HC20.out (TabT.now HTab.out T2.out.hb) HD.out).mono ?_
    rintro e wz ⟨va, rfl, hs, hb⟩
    obtain ⟨Aa, ca, hva, hca, hra⟩ := Kd.S_reads hs
    subst hva
    have HRA := Aside0.mk hra
    have HCA := Aside0.mk hca
    have T3 := Aside0.mk (T2.out.step hb)
    have HZ : Aside0 (Below wz.heap.size wz wz) := ⟨Below.refl _ _⟩
    clear hra hca T2 hs hb hcz0 hcz1 hcz2 HD hi0 hi1
    have hcz2 : wz.cell? ⟨gr, 2, none⟩ = some (.slice A2_2 l2_2.length c2_2) := (blk_cell T3.out.br 2).trans rfl
    go_wp2_with fail
    clear hcz2
    go_loopg [51] l2_2.length (fun kq v51 w' => ∃ (i : Nat), v51 = .int .i64 i ∧ Aside0 (kq + i = l2_2.length) ∧ Aside0 (TW w w' gb gr (.cells #[.int .i64 a0_0, .slice A0_1 l0_1.length c0_1] 24 (0, 0)) (.cells #[.slice A2_0 l2_0.length c2_0, .slice A2_1 l2_2.length c2_1, .slice A2_2 l2_2.length c2_2] 28 (0, 0))) ∧ Aside0 (Below wz.heap.size wz w') ∧ Aside0 ((l2_2.drop i).all (covP all) = r))
    case atStart => exact ⟨0, rfl, ⟨rfl⟩, T3, HZ, HX⟩
    case round =>
     clear T3 HZ HX HI
     obtain ⟨i, rfl, HI, T3, HZ, HX⟩ := hrel
     cases gk with
     | succ k1 =>
      have hi : i < l2_2.length := by have := HI.out; omega
      have hl : l2_2.length ≤ 9223372036854775807 := HR22.out.2.1
      obtain ⟨ad, Ad, cd, e0, hx0, hx1, hx2⟩ := at_L2 HR22.out (i : Int) (by omega) (by omega)
      simp only [Int.toNat_natCast] at hx0
      have hi0 : decide (i < l2_2.length) = true := decide_eq_true hi
      have hi1 : decide ((i : Int) < (l2_2.length : Int)) = true := decide_eq_true (by omega)
      cases e0
      have HS : Aside0 (l2_2.drop i = rd_L2 l2_2 i :: l2_2.drop (i + 1)) := ⟨by rw [List.drop_eq_getElem_cons hi]; simp [rd_L2, hi]⟩
      generalize rd_L2 l2_2 i = l at HS hx0 hx1 hx2
      replace hx0 := (T3.out.hb.cell (World.block_lt_of_cell? w _ hx0)).trans hx0
      have HX2 := Aside0.mk hx2
      have HX1 := Aside0.mk hx1
      clear hx2 hx1
      go_upto_region 19 with (fail)
      have T4 := Aside0.mk (T3.out.alloc (.cells #[.slice Ad l.length cd] 22))
      have Z4 := Aside0.mk (below_alloc HZ.out (.cells #[.slice Ad l.length cd] 22))
      have P4 := Aside0.mk (blk_new wr (.cells #[.slice Ad l.length cd] 22 (0, 0)))
      clear T3 HZ hx0
      generalize wr.alloc (.cells #[.slice Ad l.length cd] 22) = w4 at T4 Z4 P4 ⊢
      generalize wr.heap.size = gl at P4 ⊢
      go_wp2_with fail
      refine (cont67 gl Ad cd l Aa ca all w4 P4.out (Kd.C_below HX2.out T4.out.hb) HX1.out (Kd.C_below HRA.out Z4.out) HCA.out).mono ?_
      rintro e w5 ⟨rfl, hb⟩
      have T5 := Aside0.mk (T4.out.step hb)
      have Z5 := Aside0.mk (below_step Z4.out hb)
      clear T4 Z4 P4 hb
      rw [HS.out, List.all_cons] at HX
      cases hq : covP all l with
      | false =>
       rw [hq, Bool.false_and] at HX
       obtain rfl := HX.out
       go_wp2
       go_ret
       exact ⟨rfl, T5.out.hb⟩
      | true =>
       rw [hq, Bool.true_and] at HX
       go_wp2
       go_roundg k1
       case measure => omega
       case rel => exact ⟨i + 1, by go_num, ⟨by have := HI.out; omega⟩, T5, Z5, HX⟩
     | zero =>
      have hi : i = l2_2.length := by have := HI.out; omega
      subst hi
      rw [List.drop_length] at HX
      obtain rfl := HX.out
      have hi1 : decide ((l2_2.length : Int) < (l2_2.length : Int)) = false := by simp
      have hi0 : decide (l2_2.length < l2_2.length) = false := by simp
      go_wp2
      go_ret
      exact ⟨rfl, T3.out.hb⟩
end Go.Proofs.YtjmdlmogdbhdhaaDoor.P
namespace Go.Proofs.YtjmdlmogdbhdhaaDoor.P
open Go.RowKit Go.Proofs.YtjmdlmogdbhdhaaDoorW.PrintWords Go.Proofs.YtjmdlmogdbhdhaaDoorW.PrintLast Go.Proofs.YtjmdlmogdbhdhaaDoorW.PrintMore
attribute [local go_sem] max2_int min2_int max_two min_two max_three min_three max_four min_four   -- for this text's walks alone
set_option linter.unusedVariables false
set_option linter.unusedSimpArgs false
/-! ### enforce_Check: function 17 -/
def enforce_Check.f (k : Nat) (a0_0 : Int) (l0_1 : List (S42)) (a1 : Int) (l2_0 : List Int) (l2_1 : List (S42)) (l2_2 : List (List (S42))) : Option (Int) := (enforce_arguments.f k a0_0 l0_1 l2_0 a1).bind fun t240 => (if t240 = 0 then ((enforce_Toggle.f k a0_0 l0_1 l2_1).bind fun bt241 => (if bt241.2.2 = 0 then ((enforce_acceptable.f k bt241.1 bt241.2.1 l2_0 a1).bind fun t247 => (if t247 = true then ((enforce_proves.f k a0_0 l0_1 a1 l2_0 l2_1 l2_2).bind fun t248 => (if t248 = true then (some 0) else (some 11))) else (some 7))) else (some bt241.2.2))) else (some t240))
theorem enforce_Check.mono : ∀ a0 a1 a2 a3 a4 a5 k, LeO (enforce_Check.f k a0 a1 a2 a3 a4 a5) (enforce_Check.f (k + 1) a0 a1 a2 a3 a4 a5) := by
 intro a0 a1 a2 a3 a4 a5 k
 unfold enforce_Check.f
 repeat' first
  | (with_reducible exact enforce_Toggle.mono _ _ _ _)
  | (with_reducible exact enforce_acceptable.mono _ _ _ _ _)
  | (with_reducible exact enforce_arguments.mono _ _ _ _ _)
  | (with_reducible exact enforce_proves.mono _ _ _ _ _ _ _)
  | (with_reducible exact LeO.refl _)
  | (with_reducible exact LeO.none _)
  | (with_reducible refine LeO.ite ?_ ?_)
  | (with_reducible refine LeO.bind ?_ (fun _ => ?_))
  | exact enforce_Toggle.mono _ _ _ _
  | exact enforce_acceptable.mono _ _ _ _ _
  | exact enforce_arguments.mono _ _ _ _ _
  | exact enforce_proves.mono _ _ _ _ _ _ _
  | exact LeO.none _
  | refine LeO.ite ?_ ?_
  | refine LeO.bind ?_ (fun _ => ?_)
set_option maxHeartbeats 8000000 in
set_option maxRecDepth 100000 in
theorem enforce_Check.calls (k : Nat) (a0_0 : Int) (A0_1 : Option Addr) (c0_1 : Nat) (l0_1 : List (S42)) (a1 : Int) (A2_0 : Option Addr) (c2_0 : Nat) (l2_0 : List Int) (A2_1 : Option Addr) (c2_1 : Nat) (l2_1 : List (S42)) (A2_2 : Option Addr) (c2_2 : Nat) (l2_2 : List (List (S42))) (w : World) (hr0_1 : Kd.C k42 w A0_1 l0_1.length l0_1) (hc0_1 : l0_1.length ≤ c0_1) (hr2_0 : Kd.C (Kd.int .i64) w A2_0 l2_0.length l2_0) (hc2_0 : l2_0.length ≤ c2_0) (hr2_1 : Kd.C k42 w A2_1 l2_1.length l2_1) (hc2_1 : l2_1.length ≤ c2_1) (hr2_2 : Kd.C (Kd.slice 42 k42) w A2_2 l2_2.length l2_2) (hc2_2 : l2_2.length ≤ c2_2) (hT : TabT w) (h : enforce_Check.f k a0_0 l0_1 a1 l2_0 l2_1 l2_2 = some (0 : Int)) :
 Calls Tryd.prog 17 #[.agg #[.int .i64 a0_0, .slice A0_1 l0_1.length c0_1], .int .i64 a1, .agg #[.slice A2_0 l2_0.length c2_0, .slice A2_1 l2_1.length c2_1, .slice A2_2 l2_2.length c2_2]] w fun e w' => e = .returned (.int .i64 0) ∧ Below w.heap.size w w' := by
 have hu24 := Tryd.underlying24
 have hu28 := Tryd.underlying28
 have HR0_1 := Aside0.mk hr0_1
 have HC0_1 := Aside0.mk hc0_1
 clear hr0_1 hc0_1
 have HR2_0 := Aside0.mk hr2_0
 have HC2_0 := Aside0.mk hc2_0
 clear hr2_0 hc2_0
 have HR2_1 := Aside0.mk hr2_1
 have HC2_1 := Aside0.mk hc2_1
 clear hr2_1 hc2_1
 have HR2_2 := Aside0.mk hr2_2
 have HC2_2 := Aside0.mk hc2_2
 clear hr2_2 hc2_2
 have HTab := Aside0.mk hT
 clear hT
 have HB := Aside0.mk (Below.refl w.heap.size w)
 have H : ((enforce_arguments.f k a0_0 l0_1 l2_0 a1).bind fun t240 => (if t240 = 0 then ((enforce_Toggle.f k a0_0 l0_1 l2_1).bind fun bt241 => (if bt241.2.2 = 0 then ((enforce_acceptable.f k bt241.1 bt241.2.1 l2_0 a1).bind fun t247 => (if t247 = true then ((enforce_proves.f k a0_0 l0_1 a1 l2_0 l2_1 l2_2).bind fun t248 => (if t248 = true then (some 0) else (some 11))) else (some 7))) else (some bt241.2.2))) else (some t240))) = some (0 : Int) := h
 clear h
 replace H := Option.bind_eq_some_iff.mp H
 obtain ⟨t240, A40, H⟩ := H
 replace H : (if t240 = 0 then ((enforce_Toggle.f k a0_0 l0_1 l2_1).bind fun bt241 => (if bt241.2.2 = 0 then ((enforce_acceptable.f k bt241.1 bt241.2.1 l2_0 a1).bind fun t247 => (if t247 = true then ((enforce_proves.f k a0_0 l0_1 a1 l2_0 l2_1 l2_2).bind fun t248 => (if t248 = true then (some 0) else (some 11))) else (some 7))) else (some bt241.2.2))) else (some t240)) = some (0 : Int) := H
 have A4 := Aside0.mk A40
 clear A40
 by_cases c5 : t240 = 0
 · rw [if_pos c5] at H
   have c5b0 : (t240 == 0) = true := beq_iff_eq.mpr c5
   have c5b1 : (t240 != 0) = false := bne_eq_false_iff_eq.mpr c5
   clear c5
   replace H := Option.bind_eq_some_iff.mp H
   obtain ⟨⟨t241, t242, t245⟩, A60, H⟩ := H
   replace H : (if t245 = 0 then ((enforce_acceptable.f k t241 t242 l2_0 a1).bind fun t247 => (if t247 = true then ((enforce_proves.f k a0_0 l0_1 a1 l2_0 l2_1 l2_2).bind fun t248 => (if t248 = true then (some 0) else (some 11))) else (some 7))) else (some t245)) = some (0 : Int) := H
   have A6 := Aside0.mk A60
   clear A60
   by_cases c7 : t245 = 0
   · rw [if_pos c7] at H
     have c7b0 : (t245 == 0) = true := beq_iff_eq.mpr c7
     have c7b1 : (t245 != 0) = false := bne_eq_false_iff_eq.mpr c7
     clear c7
     replace H := Option.bind_eq_some_iff.mp H
     obtain ⟨t247, A80, H⟩ := H
     replace H : (if t247 = true then ((enforce_proves.f k a0_0 l0_1 a1 l2_0 l2_1 l2_2).bind fun t248 => (if t248 = true then (some 0) else (some 11))) else (some 7)) = some (0 : Int) := H
     have A8 := Aside0.mk A80
     clear A80
     by_cases c9 : t247 = true
     · subst c9
       have H1 : ((enforce_proves.f k a0_0 l0_1 a1 l2_0 l2_1 l2_2).bind fun t248 => (if t248 = true then (some 0) else (some 11))) = some (0 : Int) := by rw [if_pos rfl] at H; exact H
       clear H
       have H := H1
       clear H1
       replace H := Option.bind_eq_some_iff.mp H
       obtain ⟨t248, A100, H⟩ := H
       replace H : (if t248 = true then (some 0) else (some 11)) = some (0 : Int) := H
       have A10 := Aside0.mk A100
       clear A100
       by_cases c11 : t248 = true
       · subst c11
         have H1 := trivial
         clear H
         have H := H1
         clear H1
         clear H
         go_enter Tryd.func17, Tryd.ntmps17
         go_wp2_with (first | ((with_reducible refine gate_dst (N := 3) rfl ?_); refine box_event ?hg (N := 3) ?hd (cs := #[.int .i64 a0_0, .slice A0_1 l0_1.length c0_1]) (t := 24) ?hr ?_; (case hd => rfl); (case hg => rfl); (case hr => first | (go_simp; done) | (go_simp; rfl)); intro gb238 hg w12 hbox hb; have n0_ := Aside0.mk (below_step (zB HB) hb); have n1_ := Aside0.mk (hbox); have n2_ := Aside0.mk ((by rw [hg]; exact (below_size (zB HB)) : w.heap.size ≤ gb238)); have n3_ := Aside0.mk ((by rw [hg]; exact (below_size (zB HB)) : w.heap.size ≤ gb238)); clear HB; have HB := n0_; have BK238 := n1_; have GW238 := n2_; have GE238 := n3_; clear n0_ n1_ n2_ n3_; clear hb hbox hg) | ((with_reducible refine gate_dst (N := 5) rfl ?_); refine box_event ?hg (N := 5) ?hd (cs := #[.slice A2_0 l2_0.length c2_0, .slice A2_1 l2_1.length c2_1, .slice A2_2 l2_2.length c2_2]) (t := 28) ?hr ?_; (case hd => rfl); (case hg => rfl); (case hr => first | (go_simp; done) | (go_simp; rfl)); intro gb239 hg w13 hbox hb; have n0_ := Aside0.mk (blk_below (g := gb238) (o := .cells #[.int .i64 a0_0, .slice A0_1 l0_1.length c0_1] 24 (0, 0)) (zK BK238) hb); have n1_ := Aside0.mk (below_step (zB HB) hb); have n2_ := Aside0.mk (hbox); have n3_ := Aside0.mk ((by rw [hg]; exact (below_size (zB HB)) : w.heap.size ≤ gb239)); have n4_ := Aside0.mk ((by rw [hg]; exact (below_size (zB HB)) : w.heap.size ≤ gb239)); have n5_ := Aside0.mk ((by rw [hg]; exact Nat.ne_of_lt (blk_lt (g := gb238) (o := .cells #[.int .i64 a0_0, .slice A0_1 l0_1.length c0_1] 24 (0, 0)) (zK BK238)) : gb238 ≠ gb239)); have n6_ := Aside0.mk ((by rw [hg]; exact Nat.ne_of_gt (blk_lt (g := gb238) (o := .cells #[.int .i64 a0_0, .slice A0_1 l0_1.length c0_1] 24 (0, 0)) (zK BK238)) : gb239 ≠ gb238)); clear BK238; clear HB; have BK238 := n0_; have HB := n1_; have BK239 := n2_; have GW239 := n3_; have GE239 := n4_; have NB238_239 := n5_; have NB239_238 := n6_; clear n0_ n1_ n2_ n3_ n4_ n5_ n6_; clear hb hbox hg; have hnb14 := NB238_239.out; have hnc14 := NB239_238.out; have hcz15_0 : w13.cell? ⟨gb238, 0, none⟩ = some (.int .i64 a0_0) := (blk_cell BK238.out 0).trans rfl; have hcz15_1 : w13.cell? ⟨gb238, 1, none⟩ = some (.slice A0_1 l0_1.length c0_1) := (blk_cell BK238.out 1).trans rfl; have hfz15_0 := blk_frozen BK238.out 0; have hfz15_1 := blk_frozen BK238.out 1; have hcz16_0 : w13.cell? ⟨gb239, 0, none⟩ = some (.slice A2_0 l2_0.length c2_0) := (blk_cell BK239.out 0).trans rfl; have hcz16_1 : w13.cell? ⟨gb239, 1, none⟩ = some (.slice A2_1 l2_1.length c2_1) := (blk_cell BK239.out 1).trans rfl; have hcz16_2 : w13.cell? ⟨gb239, 2, none⟩ = some (.slice A2_2 l2_2.length c2_2) := (blk_cell BK239.out 2).trans rfl; have hfz16_0 := blk_frozen BK239.out 0; have hfz16_1 := blk_frozen BK239.out 1; have hfz16_2 := blk_frozen BK239.out 2) | ((with_reducible refine gate_callee (f := 37) rfl ?_); refine goesL_ (some 14) rfl rfl Tryd.func37 (by kernel_rfl) rfl #[.agg #[.int .i64 a0_0, .slice A0_1 l0_1.length c0_1], .slice A2_0 l2_0.length c2_0, .int .i64 a1] rfl (by (try simp only [List.map_toArray, List.map_cons, List.map_nil]); first | done | rfl | (simp only [List.length_drop, List.length_take]; rfl)) ?_; (with_reducible refine (enforce_arguments.calls k a0_0 _ _ l0_1 _ _ l2_0 a1 t240 _ ?side1 ?side2 ?side3 ?side4 A4.out).mono ?_); (case side1 => repeat (first | exact (Kd.C_below HR0_1.out HB.out) | (with_reducible refine Kd.C_alloc ?_ _) | (with_reducible refine Kd.C_drewN ?_ _) | (with_reducible refine Kd.C_drew ?_))); (case side2 => exact HC0_1.out); (case side3 => repeat (first | exact (Kd.C_below HR2_0.out HB.out) | (with_reducible refine Kd.C_alloc ?_ _) | (with_reducible refine Kd.C_drewN ?_ _) | (with_reducible refine Kd.C_drew ?_))); (case side4 => exact HC2_0.out); rintro e w17 ⟨rfl, hb⟩; refine ⟨_, rfl, ?_⟩; have n0_ := Aside0.mk (blk_below (g := gb238) (o := .cells #[.int .i64 a0_0, .slice A0_1 l0_1.length c0_1] 24 (0, 0)) (zK BK238) hb); have n1_ := Aside0.mk (blk_below (g := gb239) (o := .cells #[.slice A2_0 l2_0.length c2_0, .slice A2_1 l2_1.length c2_1, .slice A2_2 l2_2.length c2_2] 28 (0, 0)) (zK BK239) hb); have n2_ := Aside0.mk (below_step (zB HB) hb); clear BK238; clear BK239; clear HB; have BK238 := n0_; have BK239 := n1_; have HB := n2_; clear n0_ n1_ n2_; (try clear hb); (try clear hb2); (try clear hk); (try clear hi); have hcz18_0 : w17.cell? ⟨gb238, 0, none⟩ = some (.int .i64 a0_0) := (blk_cell BK238.out 0).trans rfl; have hcz18_1 : w17.cell? ⟨gb238, 1, none⟩ = some (.slice A0_1 l0_1.length c0_1) := (blk_cell BK238.out 1).trans rfl; have hfz18_0 := blk_frozen BK238.out 0; have hfz18_1 := blk_frozen BK238.out 1; have hcz19_0 : w17.cell? ⟨gb239, 0, none⟩ = some (.slice A2_0 l2_0.length c2_0) := (blk_cell BK239.out 0).trans rfl; have hcz19_1 : w17.cell? ⟨gb239, 1, none⟩ = some (.slice A2_1 l2_1.length c2_1) := (blk_cell BK239.out 1).trans rfl; have hcz19_2 : w17.cell? ⟨gb239, 2, none⟩ = some (.slice A2_2 l2_2.length c2_2) := (blk_cell BK239.out 2).trans rfl; have hfz19_0 := blk_frozen BK239.out 0; have hfz19_1 := blk_frozen BK239.out 1; have hfz19_2 := blk_frozen BK239.out 2) | ((with_reducible refine gate_callee (f := 21) rfl ?_); refine goesL_ (some 22) rfl rfl Tryd.func21 (by kernel_rfl) rfl #[.agg #[.int .i64 a0_0, .slice A0_1 l0_1.length c0_1], .slice A2_1 l2_1.length c2_1] rfl (by (try simp only [List.map_toArray, List.map_cons, List.map_nil]); first | done | rfl | (simp only [List.length_drop, List.length_take]; rfl)) ?_; (with_reducible refine (enforce_Toggle.calls k a0_0 _ _ l0_1 _ _ l2_1 t241 t242 t245 _ ?side1 ?side2 ?side3 ?side4 A6.out).mono ?_); (case side1 => repeat (first | exact (Kd.C_below HR0_1.out HB.out) | (with_reducible refine Kd.C_alloc ?_ _) | (with_reducible refine Kd.C_drewN ?_ _) | (with_reducible refine Kd.C_drew ?_))); (case side2 => exact HC0_1.out); (case side3 => repeat (first | exact (Kd.C_below HR2_1.out HB.out) | (with_reducible refine Kd.C_alloc ?_ _) | (with_reducible refine Kd.C_drewN ?_ _) | (with_reducible refine Kd.C_drew ?_))); (case side4 => exact HC2_1.out); rintro e w20 ⟨v243, rfl, ho0, hb⟩; refine ⟨_, rfl, ?_⟩; have n0_ := Aside0.mk (Kd.R_lower ho0 (below_size (zB HB))); have n1_ := Aside0.mk (blk_below (g := gb238) (o := .cells #[.int .i64 a0_0, .slice A0_1 l0_1.length c0_1] 24 (0, 0)) (zK BK238) hb); have n2_ := Aside0.mk (blk_below (g := gb239) (o := .cells #[.slice A2_0 l2_0.length c2_0, .slice A2_1 l2_1.length c2_1, .slice A2_2 l2_2.length c2_2] 28 (0, 0)) (zK BK239) hb); have n3_ := Aside0.mk (below_step (zB HB) hb); clear BK238; clear BK239; clear HB; have HO244 := n0_; have BK238 := n1_; have BK239 := n2_; have HB := n3_; clear n0_ n1_ n2_ n3_; (try clear hb); (try clear hb2); (try clear hk); (try clear hi); (try clear ho0)) | ((with_reducible refine gate_dst (N := 8) rfl ?_); refine box_event ?hg (N := 8) ?hd (cs := #[.int .i64 0, .slice none 0 0]) (t := 24) ?hr ?_; (case hd => rfl); (case hg => rfl); (case hr => first | (go_simp; done) | (go_simp; rfl)); intro gb246 hg w21 hbox hb; have n0_ := Aside0.mk (Kd.R_below (zR HO244) hb); have n1_ := Aside0.mk (blk_below (g := gb238) (o := .cells #[.int .i64 a0_0, .slice A0_1 l0_1.length c0_1] 24 (0, 0)) (zK BK238) hb); have n2_ := Aside0.mk (blk_below (g := gb239) (o := .cells #[.slice A2_0 l2_0.length c2_0, .slice A2_1 l2_1.length c2_1, .slice A2_2 l2_2.length c2_2] 28 (0, 0)) (zK BK239) hb); have n3_ := Aside0.mk (below_step (zB HB) hb); have n4_ := Aside0.mk (hbox); have n5_ := Aside0.mk ((by rw [hg]; exact (below_size (zB HB)) : w.heap.size ≤ gb246)); have n6_ := Aside0.mk ((by rw [hg]; exact (below_size (zB HB)) : w.heap.size ≤ gb246)); have n7_ := Aside0.mk ((by rw [hg]; exact Nat.ne_of_lt (blk_lt (g := gb238) (o := .cells #[.int .i64 a0_0, .slice A0_1 l0_1.length c0_1] 24 (0, 0)) (zK BK238)) : gb238 ≠ gb246)); have n8_ := Aside0.mk ((by rw [hg]; exact Nat.ne_of_gt (blk_lt (g := gb238) (o := .cells #[.int .i64 a0_0, .slice A0_1 l0_1.length c0_1] 24 (0, 0)) (zK BK238)) : gb246 ≠ gb238)); have n9_ := Aside0.mk ((by rw [hg]; exact Nat.ne_of_lt (blk_lt (g := gb239) (o := .cells #[.slice A2_0 l2_0.length c2_0, .slice A2_1 l2_1.length c2_1, .slice A2_2 l2_2.length c2_2] 28 (0, 0)) (zK BK239)) : gb239 ≠ gb246)); have n10_ := Aside0.mk ((by rw [hg]; exact Nat.ne_of_gt (blk_lt (g := gb239) (o := .cells #[.slice A2_0 l2_0.length c2_0, .slice A2_1 l2_1.length c2_1, .slice A2_2 l2_2.length c2_2] 28 (0, 0)) (zK BK239)) : gb246 ≠ gb239)); clear HO244; clear BK238; clear BK239; clear HB; have HO244 := n0_; have BK238 := n1_; have BK239 := n2_; have HB := n3_; have BK246 := n4_; have GW246 := n5_; have GE246 := n6_; have NB238_246 := n7_; have NB246_238 := n8_; have NB239_246 := n9_; have NB246_239 := n10_; clear n0_ n1_ n2_ n3_ n4_ n5_ n6_ n7_ n8_ n9_ n10_; clear hb hbox hg; have hnb22 := NB246_238.out; have hnc22 := NB238_246.out; have hnb23 := NB246_239.out; have hnc23 := NB239_246.out; have hcz24_0 : w21.cell? ⟨gb246, 0, none⟩ = some (.int .i64 0) := (blk_cell BK246.out 0).trans rfl; have hcz24_1 : w21.cell? ⟨gb246, 1, none⟩ = some (.slice none 0 0) := (blk_cell BK246.out 1).trans rfl; have hfz24_0 := blk_frozen BK246.out 0; have hfz24_1 := blk_frozen BK246.out 1; obtain ⟨Ao25, co25, eo25⟩ := Kd.R_slice HO244.out; subst eo25; have hcz26_0 : w21.cell? ⟨gb239, 0, none⟩ = some (.slice A2_0 l2_0.length c2_0) := (blk_cell BK239.out 0).trans rfl; have hcz26_1 : w21.cell? ⟨gb239, 1, none⟩ = some (.slice A2_1 l2_1.length c2_1) := (blk_cell BK239.out 1).trans rfl; have hcz26_2 : w21.cell? ⟨gb239, 2, none⟩ = some (.slice A2_2 l2_2.length c2_2) := (blk_cell BK239.out 2).trans rfl; have hfz26_0 := blk_frozen BK239.out 0; have hfz26_1 := blk_frozen BK239.out 1; have hfz26_2 := blk_frozen BK239.out 2) | ((with_reducible refine gate_callee (f := 38) rfl ?_); refine goesL_ (some 34) rfl rfl Tryd.func38 (by kernel_rfl) rfl #[.agg #[.int .i64 t241, .slice Ao25 t242.length co25], .slice A2_0 l2_0.length c2_0, .int .i64 a1] rfl (by (try simp only [List.map_toArray, List.map_cons, List.map_nil]); first | done | rfl | (simp only [List.length_drop, List.length_take]; rfl)) ?_; (with_reducible refine (enforce_acceptable.calls k t241 _ _ t242 _ _ l2_0 a1 true _ ?side1 ?side2 ?side3 ?side4 ?side5 A8.out).mono ?_); (case side1 => refine (Kd.R_reads' (e := 42) (base := w.heap.size) (ok := fun k_ => True) (n := t242.length) (c := co25) ?_).2.2; exact (by (with_reducible repeat (first | apply Kd.R_alloc | apply Kd.R_drewN | apply Kd.R_drew)); exact (Kd.R_mono (Kd.R_far (p := ⟨gb246, 1, none⟩) (Kd.R_far (p := ⟨gb246, 0, none⟩) (Kd.R_types HO244.out BK246.out (by decide)) (fun _ hk => hk.2) (.int .i64 t241)) (fun _ hk => hk.2) (.slice Ao25 t242.length co25)) (fun _ h_ => h_.1)))); (case side2 => exact (Kd.R_reads' HO244.out).2.1); (case side3 => exact Kd.C_below HR2_0.out (zB HB)); (case side4 => exact HC2_0.out); (case side5 => exact TabT.now HTab.out (zB HB)); rintro e w27 ⟨rfl, hb⟩; refine ⟨_, rfl, ?_⟩; have n0_ := Aside0.mk (Kd.R_below (by (with_reducible repeat (first | apply Kd.R_alloc | apply Kd.R_drewN | apply Kd.R_drew)); exact (Kd.R_mono (Kd.R_far (p := ⟨gb246, 1, none⟩) (Kd.R_far (p := ⟨gb246, 0, none⟩) (Kd.R_types HO244.out BK246.out (by decide)) (fun _ hk => hk.2) (.int .i64 t241)) (fun _ hk => hk.2) (.slice Ao25 t242.length co25)) (fun _ h_ => h_.1))) hb); have n1_ := Aside0.mk (blk_below (g := gb238) (o := .cells #[.int .i64 a0_0, .slice A0_1 l0_1.length c0_1] 24 (0, 0)) (by (with_reducible repeat (first | refine blk_drewN ?_ _ | refine blk_drew ?_ | refine blk_alloc ?_ _)); refine blk_far ?_ NB238_246.out _; (with_reducible repeat (first | refine blk_drewN ?_ _ | refine blk_drew ?_ | refine blk_alloc ?_ _)); refine blk_far ?_ NB238_246.out _; (with_reducible repeat (first | refine blk_drewN ?_ _ | refine blk_drew ?_ | refine blk_alloc ?_ _)); exact BK238.out) hb); have n2_ := Aside0.mk (blk_below (g := gb239) (o := .cells #[.slice A2_0 l2_0.length c2_0, .slice A2_1 l2_1.length c2_1, .slice A2_2 l2_2.length c2_2] 28 (0, 0)) (by (with_reducible repeat (first | refine blk_drewN ?_ _ | refine blk_drew ?_ | refine blk_alloc ?_ _)); refine blk_far ?_ NB239_246.out _; (with_reducible repeat (first | refine blk_drewN ?_ _ | refine blk_drew ?_ | refine blk_alloc ?_ _)); refine blk_far ?_ NB239_246.out _; (with_reducible repeat (first | refine blk_drewN ?_ _ | refine blk_drew ?_ | refine blk_alloc ?_ _)); exact BK239.out) hb); have n3_ := Aside0.mk (blk_below (g := gb246) (o := .cells #[.int .i64 t241, .slice Ao25 t242.length co25] 24 (0, 0)) (by (with_reducible repeat (first | refine blk_drewN ?_ _ | refine blk_drew ?_ | refine blk_alloc ?_ _)); refine blk_put (cs := #[.int .i64 t241, .slice none 0 0]) ?_ 1 _ rfl; (with_reducible repeat (first | refine blk_drewN ?_ _ | refine blk_drew ?_ | refine blk_alloc ?_ _)); refine blk_put (cs := #[.int .i64 0, .slice none 0 0]) ?_ 0 _ rfl; (with_reducible repeat (first | refine blk_drewN ?_ _ | refine blk_drew ?_ | refine blk_alloc ?_ _)); exact BK246.out) hb); have n4_ := Aside0.mk (below_step (zB HB) hb); clear HO244; clear BK238; clear BK239; clear BK246; clear HB; have HO244 := n0_; have BK238 := n1_; have BK239 := n2_; have BK246 := n3_; have HB := n4_; clear n0_ n1_ n2_ n3_ n4_; (try clear hb); (try clear hb2); (try clear hk); (try clear hi); have hcz28_0 : w27.cell? ⟨gb238, 0, none⟩ = some (.int .i64 a0_0) := (blk_cell BK238.out 0).trans rfl; have hcz28_1 : w27.cell? ⟨gb238, 1, none⟩ = some (.slice A0_1 l0_1.length c0_1) := (blk_cell BK238.out 1).trans rfl; have hfz28_0 := blk_frozen BK238.out 0; have hfz28_1 := blk_frozen BK238.out 1; have hcz29_0 : w27.cell? ⟨gb239, 0, none⟩ = some (.slice A2_0 l2_0.length c2_0) := (blk_cell BK239.out 0).trans rfl; have hcz29_1 : w27.cell? ⟨gb239, 1, none⟩ = some (.slice A2_1 l2_1.length c2_1) := (blk_cell BK239.out 1).trans rfl; have hcz29_2 : w27.cell? ⟨gb239, 2, none⟩ = some (.slice A2_2 l2_2.length c2_2) := (blk_cell BK239.out 2).trans rfl; have hfz29_0 := blk_frozen BK239.out 0; have hfz29_1 := blk_frozen BK239.out 1; have hfz29_2 := blk_frozen BK239.out 2) | ((with_reducible refine gate_callee (f := 39) rfl ?_); refine goesL_ (some 40) rfl rfl Tryd.func39 (by kernel_rfl) rfl #[.agg #[.int .i64 a0_0, .slice A0_1 l0_1.length c0_1], .int .i64 a1, .agg #[.slice A2_0 l2_0.length c2_0, .slice A2_1 l2_1.length c2_1, .slice A2_2 l2_2.length c2_2]] rfl (by (try simp only [List.map_toArray, List.map_cons, List.map_nil]); first | done | rfl | (simp only [List.length_drop, List.length_take]; rfl)) ?_; (with_reducible refine (enforce_proves.calls k a0_0 _ _ l0_1 a1 _ _ l2_0 _ _ l2_1 _ _ l2_2 true _ ?side1 ?side2 ?side3 ?side4 ?side5 ?side6 ?side7 ?side8 ?side9 A10.out).mono ?_); (case side1 => repeat (first | exact (Kd.C_below HR0_1.out HB.out) | (with_reducible refine Kd.C_alloc ?_ _) | (with_reducible refine Kd.C_drewN ?_ _) | (with_reducible refine Kd.C_drew ?_))); (case side2 => exact HC0_1.out); (case side3 => repeat (first | exact (Kd.C_below HR2_0.out HB.out) | (with_reducible refine Kd.C_alloc ?_ _) | (with_reducible refine Kd.C_drewN ?_ _) | (with_reducible refine Kd.C_drew ?_))); (case side4 => exact HC2_0.out); (case side5 => repeat (first | exact (Kd.C_below HR2_1.out HB.out) | (with_reducible refine Kd.C_alloc ?_ _) | (with_reducible refine Kd.C_drewN ?_ _) | (with_reducible refine Kd.C_drew ?_))); (case side6 => exact HC2_1.out); (case side7 => repeat (first | exact (Kd.C_below HR2_2.out HB.out) | (with_reducible refine Kd.C_alloc ?_ _) | (with_reducible refine Kd.C_drewN ?_ _) | (with_reducible refine Kd.C_drew ?_))); (case side8 => exact HC2_2.out); (case side9 => exact TabT.now HTab.out (zB HB)); rintro e w30 ⟨rfl, hb⟩; refine ⟨_, rfl, ?_⟩; have n0_ := Aside0.mk (Kd.R_below (zR HO244) hb); have n1_ := Aside0.mk (blk_below (g := gb238) (o := .cells #[.int .i64 a0_0, .slice A0_1 l0_1.length c0_1] 24 (0, 0)) (zK BK238) hb); have n2_ := Aside0.mk (blk_below (g := gb239) (o := .cells #[.slice A2_0 l2_0.length c2_0, .slice A2_1 l2_1.length c2_1, .slice A2_2 l2_2.length c2_2] 28 (0, 0)) (zK BK239) hb); have n3_ := Aside0.mk (blk_below (g := gb246) (o := .cells #[.int .i64 t241, .slice Ao25 t242.length co25] 24 (0, 0)) (zK BK246) hb); have n4_ := Aside0.mk (below_step (zB HB) hb); clear HO244; clear BK238; clear BK239; clear BK246; clear HB; have HO244 := n0_; have BK238 := n1_; have BK239 := n2_; have BK246 := n3_; have HB := n4_; clear n0_ n1_ n2_ n3_ n4_; (try clear hb); (try clear hb2); (try clear hk); (try clear hi)))
         go_ret
         exact ⟨by first | rfl | (simp [errW_none, errW_some] <;> rfl) | (simp [*, errW_none, errW_some] <;> rfl), zB HB⟩
       · replace c11 := Bool.eq_false_iff.mpr c11
         subst c11
         have H1 : (some 11) = some (0 : Int) := by rw [if_neg (show ¬ (false = true) by decide)] at H; exact H
         clear H
         have H := H1
         clear H1
         exact absurd H (by simp_all)
     · replace c9 := Bool.eq_false_iff.mpr c9
       subst c9
       have H1 : (some 7) = some (0 : Int) := by rw [if_neg (show ¬ (false = true) by decide)] at H; exact H
       clear H
       have H := H1
       clear H1
       exact absurd H (by simp_all)
   · rw [if_neg c7] at H
     have c7b0 : (t245 == 0) = false := beq_eq_false_iff_ne.mpr c7
     have c7b1 : (t245 != 0) = true := bne_iff_ne.mpr c7
     exact absurd H (by simp_all)
 · rw [if_neg c5] at H
   have c5b0 : (t240 == 0) = false := beq_eq_false_iff_ne.mpr c5
   have c5b1 : (t240 != 0) = true := bne_iff_ne.mpr c5
   exact absurd H (by simp_all)
end Go.Proofs.YtjmdlmogdbhdhaaDoor.P
namespace Go.Proofs.YtjmdlmogdbhdhaaDoor.P
open Go.RowKit Go.Proofs.YtjmdlmogdbhdhaaDoorW.PrintWords Go.Proofs.YtjmdlmogdbhdhaaDoorW.PrintLast Go.Proofs.YtjmdlmogdbhdhaaDoorW.PrintMore
attribute [local go_sem] max2_int min2_int max_two min_two max_three min_three max_four min_four   -- for this text's walks alone
set_option linter.unusedVariables false
set_option linter.unusedSimpArgs false
/-! ### enforce_hopeless: function 46 -/
def enforce_hopeless.f (a0_0 : Int) (l0_1 : List (S42)) (l1 : List Int) (a2 : Int) : Option (Bool) := if (l1.length : Int) = 0 then (if a2 = 2 then (some (decide (a0_0 > 0))) else (some false)) else (some false)
set_option maxHeartbeats 8000000 in
set_option maxRecDepth 100000 in
theorem enforce_hopeless.calls (a0_0 : Int) (A0_1 : Option Addr) (c0_1 : Nat) (l0_1 : List (S42)) (A1 : Option Addr) (c1 : Nat) (l1 : List Int) (a2 : Int) (r : Bool) (w : World) (hr0_1 : Kd.C k42 w A0_1 l0_1.length l0_1) (hc0_1 : l0_1.length ≤ c0_1) (hr1 : Kd.C (Kd.int .i64) w A1 l1.length l1) (hc1 : l1.length ≤ c1) (h : enforce_hopeless.f a0_0 l0_1 l1 a2 = some r) :
 Calls Tryd.prog 46 #[.agg #[.int .i64 a0_0, .slice A0_1 l0_1.length c0_1], .slice A1 l1.length c1, .int .i64 a2] w fun e w' => e = .returned (.bool r) ∧ Below w.heap.size w w' := by
 have hu24 := Tryd.underlying24
 have HR0_1 := Aside0.mk hr0_1
 have HC0_1 := Aside0.mk hc0_1
 clear hr0_1 hc0_1
 have HR1 := Aside0.mk hr1
 have HC1 := Aside0.mk hc1
 clear hr1 hc1
 have HB := Aside0.mk (Below.refl w.heap.size w)
 have H : (if (l1.length : Int) = 0 then (if a2 = 2 then (some (decide (a0_0 > 0))) else (some false)) else (some false)) = some r := h
 clear h
 by_cases c4 : (l1.length : Int) = 0
 · rw [if_pos c4] at H
   have c4b0 : ((l1.length : Int) == 0) = true := beq_iff_eq.mpr c4
   have c4b1 : ((l1.length : Int) != 0) = false := bne_eq_false_iff_eq.mpr c4
   clear c4
   by_cases c5 : a2 = 2
   · rw [if_pos c5] at H
     have c5b0 : (a2 == 2) = true := beq_iff_eq.mpr c5
     have c5b1 : (a2 != 2) = false := bne_eq_false_iff_eq.mpr c5
     clear c5
     obtain rfl := Option.some.inj H
     go_enter Tryd.func46, Tryd.ntmps46
     go_wp2_with (first | ((with_reducible refine gate_dst (N := 3) rfl ?_); refine box_event ?hg (N := 3) ?hd (cs := #[.int .i64 a0_0, .slice A0_1 l0_1.length c0_1]) (t := 24) ?hr ?_; (case hd => rfl); (case hg => rfl); (case hr => first | (go_simp; done) | (go_simp; rfl)); intro gb249 hg w6 hbox hb; have n0_ := Aside0.mk (below_step (zB HB) hb); have n1_ := Aside0.mk (hbox); have n2_ := Aside0.mk ((by rw [hg]; exact (below_size (zB HB)) : w.heap.size ≤ gb249)); have n3_ := Aside0.mk ((by rw [hg]; exact (below_size (zB HB)) : w.heap.size ≤ gb249)); clear HB; have HB := n0_; have BK249 := n1_; have GW249 := n2_; have GE249 := n3_; clear n0_ n1_ n2_ n3_; clear hb hbox hg; have hcz7_0 : w6.cell? ⟨gb249, 0, none⟩ = some (.int .i64 a0_0) := (blk_cell BK249.out 0).trans rfl; have hcz7_1 : w6.cell? ⟨gb249, 1, none⟩ = some (.slice A0_1 l0_1.length c0_1) := (blk_cell BK249.out 1).trans rfl; have hfz7_0 := blk_frozen BK249.out 0; have hfz7_1 := blk_frozen BK249.out 1))
     go_ret
     exact ⟨by first | rfl | (simp [errW_none, errW_some] <;> rfl) | (simp [*, errW_none, errW_some] <;> rfl), zB HB⟩
   · rw [if_neg c5] at H
     have c5b0 : (a2 == 2) = false := beq_eq_false_iff_ne.mpr c5
     have c5b1 : (a2 != 2) = true := bne_iff_ne.mpr c5
     obtain rfl := Option.some.inj H
     go_enter Tryd.func46, Tryd.ntmps46
     go_wp2_with (first | ((with_reducible refine gate_dst (N := 3) rfl ?_); refine box_event ?hg (N := 3) ?hd (cs := #[.int .i64 a0_0, .slice A0_1 l0_1.length c0_1]) (t := 24) ?hr ?_; (case hd => rfl); (case hg => rfl); (case hr => first | (go_simp; done) | (go_simp; rfl)); intro gb249 hg w8 hbox hb; have n0_ := Aside0.mk (below_step (zB HB) hb); have n1_ := Aside0.mk (hbox); have n2_ := Aside0.mk ((by rw [hg]; exact (below_size (zB HB)) : w.heap.size ≤ gb249)); have n3_ := Aside0.mk ((by rw [hg]; exact (below_size (zB HB)) : w.heap.size ≤ gb249)); clear HB; have HB := n0_; have BK249 := n1_; have GW249 := n2_; have GE249 := n3_; clear n0_ n1_ n2_ n3_; clear hb hbox hg))
     go_ret
     exact ⟨by first | rfl | (simp [errW_none, errW_some] <;> rfl) | (simp [*, errW_none, errW_some] <;> rfl), zB HB⟩
 · rw [if_neg c4] at H
   have c4b0 : ((l1.length : Int) == 0) = false := beq_eq_false_iff_ne.mpr c4
   have c4b1 : ((l1.length : Int) != 0) = true := bne_iff_ne.mpr c4
   have c4b2 : ¬ (l1 = []) := fun h_ => c4 (by rw [h_]; rfl)
   obtain rfl := Option.some.inj H
   go_enter Tryd.func46, Tryd.ntmps46
   go_wp2_with (first | ((with_reducible refine gate_dst (N := 3) rfl ?_); refine box_event ?hg (N := 3) ?hd (cs := #[.int .i64 a0_0, .slice A0_1 l0_1.length c0_1]) (t := 24) ?hr ?_; (case hd => rfl); (case hg => rfl); (case hr => first | (go_simp; done) | (go_simp; rfl)); intro gb249 hg w9 hbox hb; have n0_ := Aside0.mk (below_step (zB HB) hb); have n1_ := Aside0.mk (hbox); have n2_ := Aside0.mk ((by rw [hg]; exact (below_size (zB HB)) : w.heap.size ≤ gb249)); have n3_ := Aside0.mk ((by rw [hg]; exact (below_size (zB HB)) : w.heap.size ≤ gb249)); clear HB; have HB := n0_; have BK249 := n1_; have GW249 := n2_; have GE249 := n3_; clear n0_ n1_ n2_ n3_; clear hb hbox hg))
   go_ret
   exact ⟨by first | rfl | (simp [errW_none, errW_some] <;> rfl) | (simp [*, errW_none, errW_some] <;> rfl), zB HB⟩
end Go.Proofs.YtjmdlmogdbhdhaaDoor.P
namespace Go.Proofs.YtjmdlmogdbhdhaaDoor.P
open Go.RowKit Go.Proofs.YtjmdlmogdbhdhaaDoorW.PrintWords Go.Proofs.YtjmdlmogdbhdhaaDoorW.PrintLast Go.Proofs.YtjmdlmogdbhdhaaDoorW.PrintMore
attribute [local go_sem] max2_int min2_int max_two min_two max_three min_three max_four min_four   -- for this text's walks alone
set_option linter.unusedVariables false
set_option linter.unusedSimpArgs false
/-! ### slices_Clone_int_int: function 76 -/
def slices_Clone_int_int.f (l0 : List Int) : Option (List Int) := if l0.length < 17592186044416 then some l0 else none
set_option maxHeartbeats 1000000 in
theorem slices_Clone_int_int.calls (A0 : Option Addr) (c0 : Nat) (l0 : List Int) (r : List Int) (w : World) (hr0 : Kd.C (Kd.int .i64) w A0 l0.length l0) (hc0 : l0.length ≤ c0) (h : slices_Clone_int_int.f l0 = some r) :
 Calls Tryd.prog 76 #[.slice A0 l0.length c0] w fun e w' => ∃ v0_ : Value, e = .returned (v0_) ∧ Kd.R (Kd.int .i64) 3 w' w.heap.size (fun _ => True) v0_ r ∧ Below w.heap.size w w' := by
 unfold slices_Clone_int_int.f at h
 split at h
 case isFalse => exact absurd h (by simp)
 case isTrue hlen =>
 obtain rfl := Option.some.inj h
 have HR0 := Aside0.mk hr0
 clear hr0 h
 cases A0 with
 | none =>
  have hz : l0 = [] := by
   have h3 := HR0.out.2.2
   cases l0 with
   | nil => rfl
   | cons a b => obtain ⟨ad, he, _⟩ := h3 (by simp); cases he
  clear HR0
  subst hz
  have he : ∀ W n c, (binOp .eql 25 (.slice none n c) (.slice none 0 0)).run Tryd.prog W = .ok (.bool true) W := fun W n c => Lib.run_eql_slice_nil W 25 3 none n c 0 0 Tryd.underlying25
  go_enter Tryd.func76, Tryd.ntmps76
  go_wp2
  go_ret
  exact ⟨_, rfl, Kd.R_nil _ _ _ _ _, Below.refl _ _⟩
 | some ad =>
  have he : ∀ W n c, (binOp .eql 25 (.slice (some ad) n c) (.slice none 0 0)).run Tryd.prog W = .ok (.bool false) W := fun W n c => Lib.run_eql_slice_nil W 25 3 (some ad) n c 0 0 Tryd.underlying25
  go_enter Tryd.func76, Tryd.ntmps76
  go_wp2_with (first
   | ((with_reducible refine gate_dst (N := 5) rfl ?_); refine Kd.R_lit (Kd.int .i64) _ 3 ?hg (N := 5) ?hd (xs := ([] : List Int)) (inner := []) (ok := fun _ => True) (okp := fun _ => True) ?hr ?hp (fun _ hk => hk) trivial (Below.refl _ _) (Nat.le_refl _) (by simp) ?_; (case hd => rfl); (case hg => rfl); (case hr => first | (go_simp; done) | (go_simp; rfl)); (case hp => exact Reps.none _ _); intro v1 w1 ho hb hg_ hn_; have HO := Aside0.mk ho; have HB := Aside0.mk hb; clear ho hb hg_ hn_)
   | ((with_reducible refine gate_builtin (b := .append) (xs := #[.tmp 5, .tmp 6]) rfl ?_); at_builtin; refine Kd.R_append_rows (Kd.int .i64) (w0 := w) w.heap.size rfl (.tmp 5) (.tmp 6) 25 3 (.int .i64 0) 8 rfl Tryd.underlying25 info3 rfl (by decide) (by omega) v1 ([] : List Int) l0 _ _ _ (fun _ => True) (fun _ => False) rfl rfl HO.out (Kd.C_below HR0.out HB.out) (fun _ _ h => h) (fun _ h => h.elim) (fun _ _ => trivial) HB.out HB.out.size (by simp; omega) ?_; intro v2 w2 ho hb hg hat; clear hg hat))
  go_ret
  exact ⟨_, rfl, ho, hb⟩
end Go.Proofs.YtjmdlmogdbhdhaaDoor.P
