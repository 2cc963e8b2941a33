/- For every network, every two lists of whole numbers, every whole number and every list of pairs deliberationlaw21.EnforceAnswers returns true, and what it was handed reads afterwards as before. The one condition: the library's package variable math/bits.deBruijn64tab begins with the value that the program's text gives it; the card ties this to the text. -/
import Derived.Test.YtjmdlmogdbhdhaaDoorRows
import Derived.Test.YtjmdlmogdbhdhaaDoorCards
import Derived.Test.YtjmdlmogdbhdhaaDoorTie
import Derived.Deep.SlicePairs
import Derived.ShutString
import Derived.SevenTiedAt
import Derived.Test.YtjmdlmogdbhdhaaDoorA2
import Derived.Test.YtjmdlmogdbhdhaaDoorA6
namespace Go.Proofs.YtjmdlmogdbhdhaaDoor.V
open Go.ChangeShapes Go.WideShapes Go.ChangeAt Go.RowKit Go.Deep Go.Proofs.YtjmdlmogdbhdhaaDoorW Go.Proofs.YtjmdlmogdbhdhaaDoorW.PrintWords Go.Proofs.YtjmdlmogdbhdhaaDoorW.PrintLast Go.Proofs.YtjmdlmogdbhdhaaDoorW.PrintMore
open Go.Proofs.YtjmdlmogdbhdhaaDoor.P (G9 Qn IX own laidOut aD gm aak)
set_option linter.unusedVariables false
theorem Tv {H : Type} {enc : TypeId × Value → H} {W : World} {fuel : Nat} {cs : List Value} {x : DataW H × List MemPlace} (h : DataW.trod enc Tryd.prog W 0 (fun _ => true) true fuel 22 cs = some x) :
    ∃ A c, ∃ l : List aD, cs = [.slice A l.length c] ∧ Kd.C gm W A l.length l ∧ l.length ≤ c := by
  rcases open_slice_pairs Tryd.underlying22 Tryd.underlying42 (by kernel_rfl) rfl rfl (by kernel_rfl) (by kernel_rfl) h with ⟨rfl, _⟩ | ⟨a, len, cap, m, n, V0, V1, D0, D1, P0, P1, rfl, _, hl, hm, hmm, _, hx⟩
  · exact ⟨none, 0, [], rfl, ⟨rfl, by simp, fun h => by simp at h⟩, Nat.le_refl _⟩
  · have hmm' : m = cap := by simpa using hmm
    subst hmm'
    have H1 : ∀ i, i < m → ∃ y : aD, W.cell? (a.add (i * 2)) = some (.int .i64 y.f0) ∧ W.cell? (a.add (i * 2 + 1)) = some (.int .i64 y.f1) := by
      intro i hi
      obtain ⟨h1, h2, h3, h4⟩ := hx i hi
      obtain ⟨p, e1, _, _⟩ := DataW.trod_int Tryd.underlying3 h3
      obtain ⟨q, e2, _, _⟩ := DataW.trod_int Tryd.underlying3 h4
      refine ⟨⟨p, q⟩, h1.trans ?_, h2.trans ?_⟩
      · simpa using e1
      · simpa using e2
    obtain ⟨f, hf⟩ := choose_lt H1
    refine ⟨some a, m, (List.range len).map f, by simp, ⟨rfl, ?_, fun _ => ⟨a, rfl, fun j p hj => ⟨[.int .i64 p.f0, .int .i64 p.f1], rfl, aak W p, ?_⟩⟩⟩, by simpa using hl⟩
    · have : m ≤ 9223372036854775807 := Nat.le_trans hm (by decide)
      simp
      omega
    · intro i u hu
      have hj2 : j < len ∧ p = f j := by
        rw [List.getElem?_map] at hj
        rcases Nat.lt_or_ge j len with h9 | h9
        · rw [List.getElem?_range h9] at hj
          simp at hj
          exact ⟨h9, hj.symm⟩
        · rw [List.getElem?_eq_none (by simpa using h9)] at hj
          simp at hj
      obtain ⟨hj3, rfl⟩ := hj2
      obtain ⟨q1, q2⟩ := hf j (by omega)
      match i, hu with
      | 0, hu =>
        simp at hu
        subst hu
        exact q1
      | 1, hu =>
        simp at hu
        subst hu
        exact q2
theorem wB {α : Type} {xs : List α} (h : xs.length = 2) : ∃ a b, xs = [a, b] := by
  match xs, h with
  | [a, b], _ => exact ⟨a, b, rfl⟩
theorem amz {H : Type} {enc : TypeId × Value → H} {W : World} {cs : Array Value} {d : DataW H} {ps : List MemPlace} (h : DataW.Trod enc Tryd.prog W 0 (fun _ => true) true 24 (.agg cs) d ps) :
    ∃ a A c, ∃ l : List aD, cs = #[.int .i64 a, .slice A l.length c] ∧ Kd.C gm W A l.length l ∧ l.length ≤ c := by
  obtain ⟨fuel, hf⟩ := h
  obtain ⟨xs, n, _, _, hlen, hxl, hx⟩ := DataW.trod_struct Tryd.underlying24 hf
  have e24 : Tryd.prog.cellsOf 24 = 2 := by kernel_rfl
  have e3 : Tryd.prog.cellsOf 3 = 1 := by kernel_rfl
  have e22 : Tryd.prog.cellsOf 22 = 1 := by kernel_rfl
  rw [e24] at hlen
  obtain ⟨v0, v1, e⟩ := wB hlen
  obtain ⟨x0, x1, rfl⟩ := wB hxl
  have g0 : DataW.trod enc Tryd.prog W 0 (fun _ => true) true n 3 (((Value.agg cs).cells.toList.drop 0).take (Tryd.prog.cellsOf 3)) = some x0 := hx 0 _ rfl
  have g1 : DataW.trod enc Tryd.prog W 0 (fun _ => true) true n 22 (((Value.agg cs).cells.toList.drop 1).take (Tryd.prog.cellsOf 22)) = some x1 := hx 1 _ rfl
  rw [e, e3] at g0
  rw [e, e22] at g1
  obtain ⟨a, e0, _, _⟩ := DataW.trod_int Tryd.underlying3 g0
  obtain ⟨A, c, l, e1, h1, h2⟩ := Tv g1
  have q0 : v0 = .int .i64 a := by simpa using e0
  have q1 : v1 = .slice A l.length c := by simpa using e1
  subst q0 q1
  refine ⟨a, A, c, l, ?_, h1, h2⟩
  cases cs
  simp [Value.cells] at e
  rw [e]
theorem afQ {H : Type} {enc : TypeId × Value → H} {W : World} {a : Option Addr} {len cap : Nat} {d : DataW H} {ps : List MemPlace} (h : DataW.Trod enc Tryd.prog W 0 (fun _ => true) true 22 (.slice a len cap) d ps) :
    ∃ l : List aD, len = l.length ∧ Kd.C gm W a l.length l ∧ l.length ≤ cap := by
  obtain ⟨fuel, hf⟩ := h
  obtain ⟨A, c, l, e1, h1, h2⟩ := Tv hf
  simp [Value.cells] at e1
  obtain ⟨rfl, rfl, rfl⟩ := e1
  exact ⟨l, rfl, h1, h2⟩
theorem Yl {H : Type} {enc : TypeId × Value → H} {W : World} {a : Option Addr} {len cap : Nat} {d : DataW H} {ps : List MemPlace} (h : DataW.Trod enc Tryd.prog W 0 (fun _ => true) true 25 (.slice a len cap) d ps) :
    ∃ l : List Int, len = l.length ∧ Kd.C (Kd.int .i64) W a l.length l ∧ l.length ≤ cap ∧ ∀ x ∈ l, (Lit.int .i64 x).wf = true := by
  have z0 : ∃ zs : List Int, (a = none ∧ len = 0 ∧ cap = 0 ∧ zs = []) ∨ ∃ x, a = some x ∧ len ≤ cap ∧ cap ≤ maxLen ∧ zs.length = cap ∧ (∀ i, i < zs.length → W.cell? (x.add i) = some (.int .i64 (zs.getD i 0))) ∧ ∀ n ∈ zs, (Lit.int .i64 n).wf = true := by
    obtain ⟨fuel, hf⟩ := h
    rcases open_ints Tryd.underlying25 Tryd.underlying3 (by kernel_rfl) hf with ⟨hcs, _⟩ | ⟨x, l, c, zs, hcs, _, hl, hm, hz, _, hcell, hwz⟩
    · simp [Value.cells] at hcs
      obtain ⟨rfl, rfl, rfl⟩ := hcs
      exact ⟨[], .inl ⟨rfl, rfl, rfl, rfl⟩⟩
    · simp [Value.cells] at hcs
      obtain ⟨rfl, rfl, rfl⟩ := hcs
      exact ⟨zs, .inr ⟨_, rfl, hl, hm, by simpa using hz, hcell, hwz⟩⟩
  obtain ⟨zs, w0⟩ := z0
  obtain ⟨l, e, h1, h2, h3, h4⟩ := lq.aiA w0
  exact ⟨l, e, Kd.J7 (d := (0 : Int)) (h1 := fun _ => rfl) h1, h4, h3⟩
set_option maxRecDepth 100000 in
theorem lifted (os : Os) (started : os.Started) (H : Type) (enc : TypeId × Value → H) :
    ReturnsInHanded {} Tryd.checked os 5 .any (fun w args => (Rows.enforceAnswersSpec.pre enc Tryd.prog Tryd.f5 Rows.enforceAnswersRow.domain false w args ∧ laidMet Tryd.prog [("math/bits.deBruijn64tab", Rows.laid_math_bits_deBruijn64tab)] w) ∧ sizedMet enc Tryd.prog Tryd.f5 (OpenSpec.ofChange Rows.enforceAnswersSpec) false w args)
      (Rows.enforceAnswersSpec.post enc Tryd.prog Tryd.f5 false true false false) := by
  refine returnsInHanded_of_change_and (C := Tryd.checked) (X := fun w _ => laidMet Tryd.prog [("math/bits.deBruijn64tab", Rows.laid_math_bits_deBruijn64tab)] w) (fun _ _ _ hh h => h.of_heap hh) own started (by kernel_rfl) Tryd.func5
    (ChangeSpec.witness_at (enc := enc) (C := Tryd.checked) (os := os) (X := fun w _ => laidMet Tryd.prog [("math/bits.deBruijn64tab", Rows.laid_math_bits_deBruijn64tab)] w) false (G9 os) #[.agg #[.int .i64 0, .slice none 0 0], .slice none 0 0, .slice none 0 0, .int .i64 0, .slice none 0 0] 8 rfl (by kernel_rfl) (by kernel_rfl) (by kernel_rfl) (by kernel_rfl) (by kernel_rfl) (Qn os _)) ?_
  intro W base args ds gs before hval0 hW hcnd hsz0 hL _
  have hsz : (DataW.weightsEach Tryd.prog (Tryd.f5.params.toList ++ Rows.enforceAnswersSpec.plain.varTypes Tryd.prog) (ds ++ gs)).all (· ≤ reachBytes) = true := hsz0
  have hval : ∀ (j : Nat) t v, Tryd.f5.params[j]? = some t → args[j]? = some v → Value.okWide Tryd.prog W .any base t v := hval0
  have hW' := hW
  obtain ⟨p, q, hA0, hV, rfl, hfz, hnd⟩ := hW
  have hA : DataW.TrodAll enc Tryd.prog W 0 (fun _ => true) true Tryd.f5.params.toList args.toList ds p := hA0
  rw [Tryd.params5] at hA hval hsz
  obtain ⟨v0, vs0, d0, ds0, p0, q0, hargs, rfl, rfl, h0, r0⟩ := trodAll_cons hA
  obtain ⟨v1, vs1, d1, ds1, p1, q1, rfl, rfl, rfl, h1, r1⟩ := trodAll_cons r0
  obtain ⟨v2, vs2, d2, ds2, p2, q2, rfl, rfl, rfl, h2, r2⟩ := trodAll_cons r1
  obtain ⟨v3, vs3, d3, ds3, p3, q3, rfl, rfl, rfl, h3, r3⟩ := trodAll_cons r2
  obtain ⟨v4, vs4, d4, ds4, p4, q4, rfl, rfl, rfl, h4, r4⟩ := trodAll_cons r3
  obtain ⟨rfl, rfl, rfl⟩ := trodAll_nil r4
  obtain rfl : args = #[v0, v1, v2, v3, v4] := by cases args; simp_all
  obtain ⟨rfl, rfl⟩ := trodVars_none hV
  obtain ⟨cs, rfl, _⟩ := okWide_struct Tryd.underlying24 (hval 0 24 v0 rfl rfl)
  obtain ⟨A1, n1, c1, rfl⟩ := okWide_slice Tryd.underlying25 (hval 1 25 v1 rfl rfl)
  obtain ⟨A2, n2, c2, rfl⟩ := okWide_slice Tryd.underlying25 (hval 2 25 v2 rfl rfl)
  obtain ⟨A4, n4, c4, rfl⟩ := okWide_slice Tryd.underlying22 (hval 4 22 v4 rfl rfl)
  have lt : ∀ {t v d p}, DataW.Trod enc Tryd.prog W 0 (fun _ => true) true t v d p → ∀ x ∈ p, x.block < W.heap.size := fun h => by obtain ⟨m, hm⟩ := h; exact DataW.trod_lt m _ _ _ hm
  obtain ⟨a0, A0, c0, l0, rfl, x0, y0⟩ := amz h0
  obtain ⟨l1, rfl, x1, y1, w1⟩ := Yl h1
  obtain ⟨l2, rfl, x2, y2, w2⟩ := Yl h2
  obtain ⟨a3, rfl, rfl, rfl, w3⟩ := open_int Tryd.underlying3 (hval 3 3 v3 rfl rfl) h3
  obtain ⟨l4, rfl, x4, y4⟩ := afQ h4
  clear hA0 hval0 hsz0 hsz
  refine (P.ME a0 A0 c0 l0 A1 c1 l1 A2 c2 l2 a3 A4 c4 l4 W x0 y0 x1 y1 x2 y2 x4 y4 w1 (IX hL)).mono fun e W' ⟨he, bel⟩ => ?_
  subst he
  exact ⟨_, rfl, _, _, _, [], _, [], hW', trodAll_mk1 (shut_bool Tryd.underlying4 _), (trodAll_cons_mk (Below.trod laidOut (by kernel_rfl) (of_decide_eq_true (by kernel_rfl)) h0 bel (lt h0)) (trodAll_cons_mk (Below.trod laidOut (by kernel_rfl) (of_decide_eq_true (by kernel_rfl)) h1 bel (lt h1)) (trodAll_cons_mk (Below.trod laidOut (by kernel_rfl) (of_decide_eq_true (by kernel_rfl)) h2 bel (lt h2)) (trodAll_cons_mk (shut_int Tryd.underlying3 w3) (trodAll_cons_mk (Below.trod laidOut (by kernel_rfl) (of_decide_eq_true (by kernel_rfl)) h4 bel (lt h4)) trodAll_mk0))))), rfl, bel.frame _, fun h => by cases h⟩
theorem over : Rows.enforceAnswersRow.holds Tryd.pinned (OpenSpec.ofChange Rows.enforceAnswersSpec) :=
  OpenClaim.holds_of_wide 5 Tryd.f5 rfl rfl rfl rfl rfl rfl rfl ⟨rfl, rfl, rfl, rfl, rfl⟩ rfl rfl rfl rfl rfl (by kernel_rfl) Tryd.func5 (by kernel_rfl)
    (of_decide_eq_true (by kernel_rfl)) (by unfold Func.isWrapper; first | (rw [if_pos (by decide +kernel)]; kernel_rfl) | (rw [if_neg (by decide +kernel)]; exact ⟨rfl, rfl⟩))
    (fun os started H enc _ => lifted os started H enc)
theorem proved : Rows.EnforceAnswersSaid := over
end Go.Proofs.YtjmdlmogdbhdhaaDoor.V
namespace Go.Proofs.YtjmdlmogdbhdhaaDoor
theorem enforceAnswers_card : Rows.EnforceAnswersCardSaid :=
  Claim7.holds_tied_plain_at .later [] [.data] true (true, "2279651922a1ea41d431b2b6df01907f23c92bf37932fc92ab3427d377aa2440") false
    V.proved (fun _ h => by cases h) (by kernel_rfl) (fun _ h => by cases h) enforceAnswers_row_tie rfl ⟨rfl, rfl⟩ (by kernel_rfl) rfl
    (fun f fn hf hfn => by
      obtain rfl : f = 5 := Option.some.inj ((show Tryd.prog.funcNamed "deliberation/deliberationlaw21.EnforceAnswers" = some 5 by kernel_rfl).symm.trans hf) |>.symm
      obtain rfl : fn = Tryd.f5 := (Option.some.inj (Tryd.func5.symm.trans hfn)).symm
      exact ⟨by kernel_rfl, fun j t ht => by
        rw [Tryd.params5] at ht
        have h3 : t = 24 ∨ t = 25 ∨ t = 3 ∨ t = 22 := by
          rcases j with _ | _ | _ | _ | _ | j <;> simp at ht <;> simp [← ht]
        rcases h3 with rfl | rfl | rfl | rfl
        · exact (show Tryd.prog.wantsStandIn 24 = false by kernel_rfl)
        · exact (show Tryd.prog.wantsStandIn 25 = false by kernel_rfl)
        · exact (show Tryd.prog.wantsStandIn 3 = false by kernel_rfl)
        · exact (show Tryd.prog.wantsStandIn 22 = false by kernel_rfl)⟩)
    (by kernel_rfl)
#print axioms enforceAnswers_card
end Go.Proofs.YtjmdlmogdbhdhaaDoor
